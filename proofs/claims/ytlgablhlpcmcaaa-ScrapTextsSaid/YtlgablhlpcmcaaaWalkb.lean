/-
  What scrap.part answers: the scraps of a list from one place to another one. Conditions: the list may be, the places lie within 2^40.
-/
import Derived.Test.YtlgablhlpcmcaaaWalka
import Derived.StillTailTactics
import Derived.Deep.RegionHeld3
namespace Go.Proofs.Ytlgablhlpcmcaaa
open Go.RowKit
theorem info31 : (Try.prog.info? 31).map (fun i => (i.zero, i.size, i.bytes)) = some (some (.agg #[.int .i64 0, .int .i64 0, .int .i64 0]), 3, 24) := by kernel_rfl

/-- What one scrap gives to a piece. -/
def bit (s : S) (f t : Int) : List S := if f < s.len ∧ 0 < t ∧ f < t then [⟨s.src, s.at_ + max f 0, min t s.len - max f 0⟩] else []
theorem bit_yes {s : S} {f t x y : Int} (h : f < s.len ∧ 0 < t ∧ f < t) (hx : (if f < 0 then 0 else f) = x) (hy : (if s.len < t then s.len else t) = y) : bit s f t = [⟨s.src, s.at_ + x, y - x⟩] := by
  unfold bit
  rw [if_pos h]
  have e1 : max f 0 = x := by omega
  have e2 : min t s.len = y := by omega
  rw [e1, e2]
theorem bit_no {s : S} {f t : Int} (h : ¬ (f < s.len ∧ 0 < t ∧ f < t)) : bit s f t = [] := by
  unfold bit
  rw [if_neg h]
def partL : List S → Int → Int → List S
  | [], _, _ => []
  | s :: l, f, t => bit s f t ++ partL l (f - s.len) (t - s.len)
theorem partL_append (l m : List S) (f t : Int) : partL (l ++ m) f t = partL l f t ++ partL m (f - tot l) (t - tot l) := by
  induction l generalizing f t with
  | nil => simp [partL, tot]
  | cons a l ih =>
    simp only [List.cons_append, partL, tot, ih, List.append_assoc]
    congr 3 <;> omega
theorem partL_len (l : List S) (f t : Int) : (partL l f t).length ≤ l.length := by
  induction l generalizing f t with
  | nil => simp [partL]
  | cons a l ih =>
    have := ih (f - a.len) (t - a.len)
    have : (bit a f t).length ≤ 1 := by unfold bit; split <;> simp
    simp only [partL, List.length_append, List.length_cons]; omega
theorem partL_succ {l : List S} {k : Nat} {s : S} (hs : l[k]? = some s) (f t : Int) : partL (l.take (k+1)) f t = partL (l.take k) f t ++ bit s (f - tot (l.take k)) (t - tot (l.take k)) := by
  rw [take_snoc l k s hs, partL_append]; simp [partL]

theorem part_any (A : Option Addr) (len cap : Nat) (f t : Int) (w : World) (l : List S) (hlen : l.length = len) (hr : Rd w w.heap.size A l) (hL : Ok l) (ht : tot l ≤ 1099511627776)
    (hf0 : 0 ≤ f) (hf1 : f ≤ 1099511627776) (ht0 : 0 ≤ t) (ht1 : t ≤ 1099511627776) :
    Calls Try.prog 34 #[.slice A len cap, .int .i64 f, .int .i64 t] w fun e w' => (∃ A' n c, e = .returned (.slice A' n c) ∧ Own w' w.heap.size A' n c (partL l f t)) ∧ Below w.heap.size w w' := by
  have hm := len_le_tot l hL
  rw [hlen] at hm
  obtain ⟨i0, hi, hz0, hz1, hz2⟩ := info_parts info31
  go_enter Try.func34, Try.ntmps34
  go_wp2
  have H := Lib.hid hlen; clear hlen
  generalize hBB : w.heap.size = BB at *
  have HB := Lib.hid hBB; clear hBB
  go_loopw [1, 2, 7, 14] (fun f' t' v i wr => ∃ k A' n c, k ≤ len ∧ i = .int .i64 k ∧ f' = .int .i64 (f - tot (l.take k)) ∧ t' = .int .i64 (t - tot (l.take k)) ∧ v = .slice A' n c ∧ Own wr BB A' n c (partL (l.take k) f t) ∧ Below BB w wr) (fun _ _ _ i _ => len - (intOf i).toNat)
  case atStart => exact ⟨0, _, _, _, Nat.zero_le _, rfl, by simp [tot], by simp [tot], rfl, Own.nil _ _, Below.refl _ _⟩
  case round =>
    obtain ⟨k, A', n, c, hk, rfl, rfl, rfl, rfl, hown, hb⟩ := hrel
    have p1 := tot_take_le l hL k
    have p0 := tot_nonneg (l.take k) (hL.take k)
    by_cases hlt : k < len
    · obtain ⟨s, hs⟩ := get_some l k (by have := H.out; omega)
      have e1 := tot_take_succ l k s hs
      have e2 := partL_succ hs f t
      have e3 := partL_len (l.take k) f t
      have e4 : (l.take k).length ≤ k := List.length_take_le _ _
      have e5 := hown.1
      have q1 := tot_take_le l hL (k+1)
      obtain ⟨o1, o2, o3, o4, o5⟩ := hL.at_ hs
      obtain ⟨b, off, rfl, hb', h0, h1, h2⟩ := hr.below hb (by have := HB.out; omega) k s hs
      have q3 : tot (l.take k) + s.len ≤ 1099511627776 := by omega
      have hn : n ≤ k := by omega
      have E1 := Lib.hid e1
      have E2 := Lib.hid e2
      have HO := Lib.hid hown
      have HBel := Lib.hid hb
      have hsz : BB ≤ wr.heap.size := by have := hb.size; have := HB.out; omega
      clear hr e1 e2 e3 e4 e5 hs hown hb
      generalize tot (l.take k) = T at *
      by_cases hc : f - T < s.len ∧ 0 < t - T ∧ f < t
      · obtain ⟨c1, c2, c3⟩ := hc
        go_wp2
        go_quiet (fail)
        generalize hx : (if f - T < 0 then (0 : Int) else f - T) = x
        generalize hy : (if s.len < t - T then s.len else t - T) = y
        have x0 : 0 ≤ x := by omega
        have x1 : x ≤ s.len := by omega
        have y0 : 0 ≤ y := by omega
        have y1 : y ≤ s.len := by omega
        have HX := Lib.hid hx
        have HY := Lib.hid hy
        clear hx hy
        go_wp2_with (at_builtin; refine wpList_append_own _ rfl _ _ 22 rfl BB 31 i0 _ 3 24 Try.underlying22 hi hz0 hz1 hz2 rfl (by decide) _ _ _ rfl (((HO.out.alloc _).alloc _).drewN nq).2 ⟨wr.heap.size + 1, 0, none⟩ 1 1 (cells [⟨s.src, s.at_ + x, y - x⟩]) rfl rfl ?c1 ?c2 ?c3 ?c4 ?c5 ?_)
        case c1 => exact new_one _ ⟨s.src, s.at_ + x, y - x⟩ _ (by simp)
        case c2 => exact cells_one_cell _
        case c3 => unfold maxLen; omega
        case c4 => omega
        case c5 => simp; omega
        intro v' w1 hown' hgrow _
        obtain ⟨⟨A'', c'', hv, hown2⟩, hb2, _, hz3, hcl⟩ := app_step HO.out HBel.out hsz (belowDrewN ((Below.refl _ _).alloc (Nat.le_refl _) _) nq |>.alloc (by simp) _) hown' hgrow
        have g2 := (hcl wr.heap.size 2 (Nat.le_refl _) (by simp; omega)).trans (cell_new2 _ _ _ _ _ _)
        simp at g2
        rw [hv]
        clear hcl hgrow hown' hv
        go_wp2
        go_quiet (fail)
        go_wp2
        go_roundw
        case rel =>
          refine ⟨k+1, A'', n+1, c'', by omega, by go_num, by rw [E1.out]; congr 1; omega, by rw [E1.out]; congr 1; omega, rfl, ?_, belowDrewN hb2 _⟩
          rw [E2.out, bit_yes ⟨c1, c2, by omega⟩ HX.out HY.out]
          exact hown2.drewN _
        case measure => simp [intOf]; omega
      · have HC := Lib.hid hc
        go_wp2
        all_goals
          go_quiet (fail)
          go_wp2
          go_roundw
          case rel =>
            refine ⟨k+1, A', n, c, by omega, by go_num, by rw [E1.out]; congr 1; omega, by rw [E1.out]; congr 1; omega, rfl, ?_, belowDrewN (HBel.out.alloc hsz _) _⟩
            rw [E2.out, bit_no (by have := HC.out; omega), List.append_nil]
            exact (HO.out.alloc _).drewN _
          case measure => simp [intOf]; omega
    · obtain rfl : k = len := by omega
      clear hlt
      have e2 : l.take k = l := by rw [List.take_of_length_le (Nat.le_of_eq H.out)]
      rw [e2] at hown
      go_wp2
      go_ret
      obtain rfl := HB.out
      exact ⟨⟨_, _, _, rfl, hown⟩, hb⟩
end Go.Proofs.Ytlgablhlpcmcaaa
