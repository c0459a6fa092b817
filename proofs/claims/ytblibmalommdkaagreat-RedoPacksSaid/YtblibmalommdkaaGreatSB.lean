/-
  SB: texts of one kind, one behind the other.
-/
import Derived.Test.YtblibmalommdkaaGreatRows
import Derived.Test.YtblibmalommdkaaGreatSA
import Derived.Outline
import Derived.BigQuiet
import Derived.Deep.QuietTactic
import Derived.Deep.DeepCutAuto
import Derived.WalkLawsBesides
import Derived.Handy
import Derived.StillTailTactics
import Derived.Deep.RegionHeld3
import Derived.BigRegion
/-
  What scrap.size and scrap.May answer, for every list that reads as scraps (size: of a list that may be).
-/
namespace Go.Proofs.YtblibmalommdkaaGreat.Sc
open Go.RowKit
set_option maxRecDepth 100000 in
theorem size_any (A : Option Addr) (len cap : Nat) (w : World) (l : List S) (hlen : l.length = len) (hr : Rd w w.heap.size A l) (hL : Ok l) (ht : tot l ≤ 1099511627776) :
    Calls Tryz.prog 76 #[.slice A len cap] w fun e w' => e = .returned (.int .i64 (tot l)) ∧ Below w.heap.size w w' := by
  have hm := len_le_tot l hL
  rw [hlen] at hm
  go_enter Tryz.func76, Tryz.ntmps76
  go_wp2
  have H := Lib.hid hlen; clear hlen
  go_loopw [3, 8] (fun s i wr => ∃ k : Nat, k ≤ len ∧ i = .int .i64 k ∧ s = .int .i64 (tot (l.take k)) ∧ Below w.heap.size w wr) (fun _ i _ => len - (intOf i).toNat)
  case atStart => exact ⟨0, Nat.zero_le _, rfl, rfl, Below.refl _ _⟩
  case round =>
    obtain ⟨k, hk, rfl, rfl, hb⟩ := hrel
    have p1 := tot_take_le l hL k
    have p0 := tot_nonneg (l.take k) (hL.take k)
    by_cases hlt : k < len
    · obtain ⟨s, hs⟩ := get_some l k (by have := H.out; omega)
      have e1 := tot_take_succ l k s hs
      have q1 := tot_take_le l hL (k+1)
      have q2 := (hL.at_ hs).2.2.2.1
      obtain ⟨b, off, rfl, hb', h0, h1, h2⟩ := hr.below hb (Nat.le_refl _) k s hs
      have E1 := Lib.hid e1
      have q3 : tot (l.take k) + s.len ≤ 1099511627776 := by omega
      clear hr e1 hs hb'
      go_wp2
      go_roundw
      case rel => exact ⟨k+1, by omega, by go_num, by rw [E1.out], hb.alloc hb.size _⟩
      case measure => simp [intOf]; omega
    · obtain rfl : k = len := by omega
      clear hlt
      have e2 : tot (l.take k) = tot l := by rw [List.take_of_length_le (Nat.le_of_eq H.out)]
      go_wp2
      go_ret
      exact ⟨ret_int e2, hb⟩

/-! ### May -/
theorem mayP_take {l : List S} (h : MayP l) (k : Nat) : MayP (l.take k) := ⟨h.1.take k, by have := tot_take_le l h.1 k; have := h.2; omega⟩
theorem may_step {l : List S} {k : Nat} {s : S} (hs : l[k]? = some s) (h : MayP (l.take k)) (h0 : okS s) (h1 : tot (l.take k) + s.len ≤ 1099511627776) : MayP (l.take (k+1)) := by
  refine ⟨?_, by rw [tot_take_succ l k s hs]; exact h1⟩
  rw [take_snoc l k s hs]
  refine h.1.append ?_
  intro t ht
  simp at ht; subst ht; exact h0
theorem may_stop {l : List S} {k : Nat} {s : S} (hs : l[k]? = some s) (h : ¬ (okS s ∧ tot (l.take k) + s.len ≤ 1099511627776)) : ¬ MayP l := by
  intro hm
  apply h
  refine ⟨hm.1.at_ hs, ?_⟩
  have := (mayP_take hm (k+1)).2
  rw [tot_take_succ l k s hs] at this
  exact this
open Classical in
noncomputable def mayB (l : List S) : Bool := decide (MayP l)
theorem mayB_of {l : List S} (h : MayP l) : mayB l = true := by unfold mayB; simpa using h
theorem mayB_not {l : List S} (h : ¬ MayP l) : mayB l = false := by unfold mayB; simpa using h
theorem mayB_iff {l : List S} : mayB l = true ↔ MayP l := by unfold mayB; simp

set_option maxRecDepth 100000 in
theorem may_any (A : Option Addr) (len cap : Nat) (w : World) (l : List S) (hlen : l.length = len) (hr : Rd w w.heap.size A l) (hm : len ≤ 9223372036854775807) :
    Calls Tryz.prog 74 #[.slice A len cap] w fun e w' => e = .returned (.bool (mayB l)) ∧ Below w.heap.size w w' := by
  go_enter Tryz.func74, Tryz.ntmps74
  go_wp2
  have H := Lib.hid hlen; clear hlen
  go_loopw [3, 8] (fun s i wr => ∃ k : Nat, k ≤ len ∧ i = .int .i64 k ∧ s = .int .i64 (1099511627776 - tot (l.take k)) ∧ MayP (l.take k) ∧ Below w.heap.size w wr) (fun _ i _ => len - (intOf i).toNat)
  case atStart => exact ⟨0, Nat.zero_le _, rfl, rfl, ⟨fun s hs => by simp at hs, by simp [tot]⟩, Below.refl _ _⟩
  case round =>
    obtain ⟨k, hk, rfl, rfl, hmay, hb⟩ := hrel
    have p0 := tot_nonneg (l.take k) hmay.1
    have p1 := hmay.2
    by_cases hlt : k < len
    · obtain ⟨s, hs⟩ := get_some l k (by have := H.out; omega)
      have e1 := tot_take_succ l k s hs
      obtain ⟨b, off, rfl, hb', h0, h1, h2⟩ := hr.below hb (Nat.le_refl _) k s hs
      have E1 := Lib.hid e1
      have stp := Lib.hid (@may_stop l k s hs)
      have stq := Lib.hid (@may_step l k s hs hmay)
      have HM := Lib.hid hmay
      clear hr e1 hs hb' hmay
      generalize tot (l.take k) = T at *
      go_wp2
      case roundEnd =>
        go_roundw
        case rel =>
          refine ⟨k+1, by omega, by go_num, ?_, (by exact stq.out (by unfold okS; omega) (by omega)), hb.alloc hb.size _⟩
          rw [E1.out]; congr 1; omega
        case measure => simp [intOf]; omega
      all_goals
        go_ret
        exact ⟨ret_bool (mayB_not (stp.out (by unfold okS; omega))).symm, hb.alloc hb.size _⟩
    · obtain rfl : k = len := by omega
      clear hlt
      have e2 : l.take k = l := by rw [List.take_of_length_le (Nat.le_of_eq H.out)]
      rw [e2] at hmay
      have e3 := mayB_of hmay
      clear hmay
      go_wp2
      go_ret
      exact ⟨ret_bool e3.symm, hb⟩
end Go.Proofs.YtblibmalommdkaaGreat.Sc

/-
  What scrap.part answers: the scraps of a list from one place to another one. Conditions: the list may be, the places lie within 2^40.
-/
namespace Go.Proofs.YtblibmalommdkaaGreat.Sc
open Go.RowKit
theorem info31 : (Tryz.prog.info? 80).map (fun i => (i.zero, i.size, i.bytes)) = some (some (.agg #[.int .i64 0, .int .i64 0, .int .i64 0]), 3, 24) := by kernel_rfl

/-- What one scrap gives to a piece. -/
def bit (s : S) (f t : Int) : List S := if f < s.len ∧ 0 < t ∧ f < t then [⟨s.src, s.at_ + max f 0, min t s.len - max f 0⟩] else []
theorem bit_yes {s : S} {f t x y : Int} (h : f < s.len ∧ 0 < t ∧ f < t) (hx : (if f < 0 then 0 else f) = x) (hy : (if s.len < t then s.len else t) = y) : bit s f t = [⟨s.src, s.at_ + x, y - x⟩] := by
  unfold bit
  rw [if_pos h]
  have e1 : max f 0 = x := by omega
  have e2 : min t s.len = y := by omega
  rw [e1, e2]
theorem bit_no {s : S} {f t : Int} (h : ¬ (f < s.len ∧ 0 < t ∧ f < t)) : bit s f t = [] := by
  unfold bit
  rw [if_neg h]
def partL : List S → Int → Int → List S
  | [], _, _ => []
  | s :: l, f, t => bit s f t ++ partL l (f - s.len) (t - s.len)
theorem partL_append (l m : List S) (f t : Int) : partL (l ++ m) f t = partL l f t ++ partL m (f - tot l) (t - tot l) := by
  induction l generalizing f t with
  | nil => simp [partL, tot]
  | cons a l ih =>
    simp only [List.cons_append, partL, tot, ih, List.append_assoc]
    congr 3 <;> omega
theorem partL_len (l : List S) (f t : Int) : (partL l f t).length ≤ l.length := by
  induction l generalizing f t with
  | nil => simp [partL]
  | cons a l ih =>
    have := ih (f - a.len) (t - a.len)
    have : (bit a f t).length ≤ 1 := by unfold bit; split <;> simp
    simp only [partL, List.length_append, List.length_cons]; omega
theorem partL_succ {l : List S} {k : Nat} {s : S} (hs : l[k]? = some s) (f t : Int) : partL (l.take (k+1)) f t = partL (l.take k) f t ++ bit s (f - tot (l.take k)) (t - tot (l.take k)) := by
  rw [take_snoc l k s hs, partL_append]; simp [partL]

end Go.Proofs.YtblibmalommdkaaGreat.Sc

/-
  What scrap.joined answers: the joined list of lists put together. Conditions: the scraps may be, their sum is at most 5 times 2^40, at most 1000 lists.
-/
namespace Go.Proofs.YtblibmalommdkaaGreat.Sc
open Go.RowKit

/-- A slice of slices of scraps that reads as a list of lists. -/
def RdL (w : World) (B : Nat) (A : Option Addr) (ls : List (List S)) : Prop :=
  ∀ k l, ls[k]? = some l → ∃ b off Ak ck, A = some ⟨b, off, none⟩ ∧ b < B ∧ w.cell? ⟨b, off + k, none⟩ = some (.slice Ak l.length ck) ∧ Rd w B Ak l
theorem RdL.below {w w' : World} {B B' : Nat} {A : Option Addr} {l : List (List S)} (h : RdL w B A l) (hb : Below B' w w') (hB : B ≤ B') : RdL w' B A l := by
  intro k l hl
  obtain ⟨b, off, Ak, ck, e, hlt, hc, hr⟩ := h k l hl
  exact ⟨b, off, Ak, ck, e, hlt, (hb.cell (p := ⟨b, off + k, none⟩) (show b < B' by omega)).trans hc, hr.below hb hB⟩
theorem flat_take {ls : List (List S)} {k : Nat} {l : List S} (h : ls[k]? = some l) : (ls.take (k+1)).flatten = (ls.take k).flatten ++ l := by
  rw [take_snoc ls k l h]; simp
theorem flat_ok {ls : List (List S)} {k : Nat} {l : List S} (h : ls[k]? = some l) (ho : Ok ls.flatten) : Ok l := fun s hs => ho s (by
  rw [List.mem_flatten]; exact ⟨l, List.mem_of_getElem? h, hs⟩)
theorem flat_split {ls : List (List S)} {k : Nat} {l : List S} (h : ls[k]? = some l) (j : Nat) : ls.flatten = (ls.take k).flatten ++ l.take j ++ (l.drop j ++ (ls.drop (k+1)).flatten) := by
  have e : ls = ls.take k ++ l :: ls.drop (k+1) := by
    obtain ⟨hk, rfl⟩ := List.getElem?_eq_some_iff.1 h
    rw [← List.drop_eq_getElem_cons hk, List.take_append_drop]
  conv => lhs; rw [e]
  rw [List.flatten_append, List.flatten_cons, List.append_assoc, ← List.append_assoc (l.take j), List.take_append_drop]

set_option maxRecDepth 100000 in
set_option maxHeartbeats 800000 in
theorem joined_any (A : Option Addr) (len cap : Nat) (w : World) (ls : List (List S)) (hlen : ls.length = len) (hr : RdL w w.heap.size A ls) (hL : Ok ls.flatten) (ht : tot ls.flatten ≤ 5497558138880) (hm : len ≤ 1000) :
    Calls Tryz.prog 82 #[.slice A len cap] w fun e w' => (∃ A' n c, e = .returned (.slice A' n c) ∧ Own w' w.heap.size A' n c (joinL ls.flatten)) ∧ Below w.heap.size w w' := by
  obtain ⟨i0, hi, hz0, hz1, hz2⟩ := info_parts info31
  go_enter Tryz.func82, Tryz.ntmps82
  go_wp2
  have H := Lib.hid hlen; clear hlen
  generalize hBB : w.heap.size = BB at *
  have HB := Lib.hid hBB; clear hBB
  have HL := Lib.hid hL; have HT := Lib.hid ht; clear hL ht
  go_loopw [3, 11] (fun v i wr => ∃ k A' n c, k ≤ len ∧ i = .int .i64 k ∧ v = .slice A' n c ∧ Own wr BB A' n c (joinL (ls.take k).flatten) ∧ Below BB w wr) (fun _ i _ => len - (intOf i).toNat)
  case atStart => exact ⟨0, _, _, _, Nat.zero_le _, rfl, rfl, Own.nil _ _, Below.refl _ _⟩
  case round =>
    obtain ⟨k, A', n, c, hk, rfl, rfl, hown, hb⟩ := hrel
    by_cases hlt : k < len
    · obtain ⟨l, hl⟩ := get_some ls k (by have := H.out; omega)
      have HO := Lib.hid hown
      have HBel := Lib.hid hb
      obtain ⟨b, off, Ak, ck, rfl, hb', h0, hrd⟩ := hr.below hb (by have := HB.out; omega) k l hl
      have HS := Lib.hid (flat_split hl)
      have HF := Lib.hid (flat_take hl)
      have HRd := Lib.hid hrd
      clear hr hrd hown hb hl
      obtain ⟨wo, hwo⟩ : ∃ wo : World, wo = wr := ⟨_, rfl⟩
      subst hwo
      generalize hpre : (ls.take k).flatten = pre at *
      clear hpre
      go_wp2
      go_loopw [3, 17] (fun v i wr => ∃ j A' n c, j ≤ l.length ∧ i = .int .i64 j ∧ v = .slice A' n c ∧ Own wr BB A' n c (joinL (pre ++ l.take j)) ∧ Below BB w wr ∧ Rd wr BB Ak l) (fun _ i _ => l.length - (intOf i).toNat)
      case atStart => exact ⟨0, _, _, _, Nat.zero_le _, rfl, rfl, by simpa using HO.out, HBel.out, HRd.out⟩
      case round =>
        obtain ⟨j, A', n, c, hj, rfl, rfl, hown, hb, hrd⟩ := hrel
        have HO := Lib.hid hown
        have HBel := Lib.hid hb
        have HRd := Lib.hid hrd
        by_cases hlt2 : j < l.length
        · obtain ⟨s, hs⟩ := get_some l j hlt2
          obtain ⟨b2, off2, rfl, hb2, c0, c1, c2⟩ := hrd j s hs
          have hsz : BB ≤ wr.heap.size := by have := hb.size; have := HB.out; omega
          have e1 : pre ++ l.take (j+1) = pre ++ l.take j ++ [s] := by rw [take_snoc l j s hs, List.append_assoc]
          have ok1 : Ok (pre ++ l.take j ++ [s]) := by
            have h1 := HL.out; rw [HS.out (j+1), e1] at h1; exact fun t ht => h1 t (List.mem_append_left _ ht)
          have tt1 : tot (pre ++ l.take j ++ [s]) ≤ 5497558138880 := by
            have h1 := HT.out
            have h2 := HL.out
            rw [HS.out (j+1), e1] at h1 h2
            rw [tot_append] at h1
            have := tot_nonneg (l.drop (j+1) ++ (ls.drop (k+1)).flatten) (fun t ht => h2 t (List.mem_append_right _ ht))
            omega
          have jl : j ≤ 5497558138880 := by
            have h1 := len_le_tot _ ok1
            simp only [List.length_append, List.length_take, List.length_cons, List.length_nil] at h1
            have : min j l.length = j := by omega
            rw [this] at h1
            omega
          have E1 := Lib.hid e1
          clear e1 hs
          generalize hX : pre ++ l.take j = X at *
          have okX : Ok X := fun t ht => ok1 t (List.mem_append_left _ ht)
          have oks : okS s := ok1 s (by simp)
          have hlenX := len_le_tot _ ok1
          have hlenJ := joinL_length X
          have okJ := joinL_ok okX
          have hJ := hown.1
          have totJ := tot_joinL X
          have hn : n ≤ 5497558138880 := by simp at hlenX; omega
          rw [tot_append] at tt1
          have sJ : joinL (X ++ [s]) = glue (joinL X) s := joinL_snoc X s
          have SJ := Lib.hid sJ
          clear ok1 hlenX hlenJ okX sJ hX hown hb hrd
          generalize joinL X = J at *
          rcases snoc_cases J with rfl | ⟨L, t, rfl⟩
          · obtain rfl : n = 0 := by simpa using hJ.symm
            clear hJ
            go_wp2
            go_quiet (fail)
            go_wp2_with (at_builtin; refine wpList_append_own _ rfl _ _ 76 rfl BB 80 i0 _ 3 24 Tryz.underlying76 hi hz0 hz1 hz2 rfl (by decide) _ _ _ rfl (((HO.out.alloc _).alloc _).drewN nq).2 ⟨wr.heap.size + 1, 0, none⟩ 1 1 (cells [s]) rfl rfl (new_one _ s _ (by simp)) (cells_one_cell _) (by unfold maxLen; omega) (by omega) (by simp; omega) ?_)
            intro v' w1 hown' hgrow _
            obtain ⟨⟨A'', c'', hv, hown2⟩, hb3, hst, hz3, hcl⟩ := app_step HO.out HBel.out hsz (belowDrewN ((Below.refl _ _).alloc (Nat.le_refl _) _) nq |>.alloc (by simp) _) hown' hgrow
            have rd2 := HRd.out.below hst (Nat.le_refl _)
            rw [hv]
            clear hcl hgrow hown' hv
            go_wp2
            go_roundw
            case rel => exact ⟨j+1, A'', (0+1), c'', by omega, by go_num, rfl, by rw [E1.out, SJ.out, glue_nil]; exact hown2, hb3, rd2⟩
            case measure => simp [intOf]; omega
          · obtain ⟨m, rfl⟩ : ∃ m, n = m + 1 := ⟨L.length, by simpa using hJ.symm⟩
            obtain ⟨g, rfl, hg1, hg2, t0, t1, t2, t3⟩ := HO.out.last
            clear hJ
            obtain ⟨u1, u2, u3, u4, u5⟩ := okJ t (by simp)
            obtain ⟨v1, v2, v3, v4, v5⟩ := oks
            by_cases ca : t.src = s.src
            · by_cases cb : t.at_ + t.len = s.at_
              · have f1 : (t.src == s.src) = true := by simpa using ca
                have f2 : (t.at_ + t.len == s.at_) = true := by simpa using cb
                have f3 : t.len + s.len ≤ 1099511627776 := by omega
                have CA := Lib.hid ca
                have CB := Lib.hid cb
                clear ca cb
                go_wp2
                go_quiet (fail)
                go_wp2
                go_region
                go_wp2
                go_roundw
                case rel =>
                  refine ⟨j+1, some ⟨g, 0, none⟩, m+1, c, by omega, by go_num, rfl, ?_, ?_, ?_⟩
                  · rw [E1.out, SJ.out, glue_yes _ _ _ ⟨CA.out, CB.out⟩]
                    exact ((HO.out.alloc _).drewN _).setLast _
                  · exact (belowDrewN (HBel.out.alloc hsz _) _).setCell hg1 _
                  · exact HRd.out.below ((belowDrewN ((Below.refl _ _).alloc hsz _) _).setCell hg1 _) (Nat.le_refl _)
                case measure => simp [intOf]; omega
              · have f1 : (t.src == s.src) = true := by simpa using ca
                have f2 : (t.at_ + t.len == s.at_) = false := by simpa using cb
                have CA := Lib.hid ca
                have CB := Lib.hid cb
                clear ca cb
                go_wp2
                go_quiet (fail)
                go_wp2_with (at_builtin; refine wpList_append_own _ rfl _ _ 76 rfl BB 80 i0 _ 3 24 Tryz.underlying76 hi hz0 hz1 hz2 rfl (by decide) _ _ _ rfl (((HO.out.alloc _).alloc _).drewN nq).2 ⟨wr.heap.size + 1, 0, none⟩ 1 1 (cells [s]) rfl rfl (new_one _ s _ (by simp)) (cells_one_cell _) (by unfold maxLen; omega) (by omega) (by simp; omega) ?_)
                intro v' w1 hown' hgrow _
                obtain ⟨⟨A'', c'', hv, hown2⟩, hb3, hst, hz3, hcl⟩ := app_step HO.out HBel.out hsz (belowDrewN ((Below.refl _ _).alloc (Nat.le_refl _) _) nq |>.alloc (by simp) _) hown' hgrow
                have rd2 := HRd.out.below hst (Nat.le_refl _)
                rw [hv]
                clear hcl hgrow hown' hv
                go_wp2
                go_roundw
                case rel => exact ⟨j+1, A'', (m+1+1), c'', by omega, by go_num, rfl, by rw [E1.out, SJ.out, glue_no _ _ _ (fun h => CB.out h.2)]; exact hown2, hb3, rd2⟩
                case measure => simp [intOf]; omega
            · have f1 : (t.src == s.src) = false := by simpa using ca
              have CA := Lib.hid ca
              clear ca
              go_wp2
              go_quiet (fail)
              go_wp2_with (at_builtin; refine wpList_append_own _ rfl _ _ 76 rfl BB 80 i0 _ 3 24 Tryz.underlying76 hi hz0 hz1 hz2 rfl (by decide) _ _ _ rfl (((HO.out.alloc _).alloc _).drewN nq).2 ⟨wr.heap.size + 1, 0, none⟩ 1 1 (cells [s]) rfl rfl (new_one _ s _ (by simp)) (cells_one_cell _) (by unfold maxLen; omega) (by omega) (by simp; omega) ?_)
              intro v' w1 hown' hgrow _
              obtain ⟨⟨A'', c'', hv, hown2⟩, hb3, hst, hz3, hcl⟩ := app_step HO.out HBel.out hsz (belowDrewN ((Below.refl _ _).alloc (Nat.le_refl _) _) nq |>.alloc (by simp) _) hown' hgrow
              have rd2 := HRd.out.below hst (Nat.le_refl _)
              rw [hv]
              clear hcl hgrow hown' hv
              go_wp2
              go_roundw
              case rel => exact ⟨j+1, A'', (m+1+1), c'', by omega, by go_num, rfl, by rw [E1.out, SJ.out, glue_no _ _ _ (fun h => CA.out h.1)]; exact hown2, hb3, rd2⟩
              case measure => simp [intOf]; omega
        · obtain rfl : j = l.length := by omega
          clear hlt2
          have e2 : pre ++ l.take l.length = (ls.take (k+1)).flatten := by rw [HF.out, List.take_length]
          have E2 := Lib.hid e2
          clear e2
          go_wp2
          go_roundw
          case rel => exact ⟨k+1, A', n, c, by omega, by go_num, rfl, by rw [← E2.out]; exact HO.out, HBel.out⟩
          case measure => simp [intOf]; omega
    · obtain rfl : k = len := by omega
      clear hlt
      have e2 : ls.take k = ls := by rw [List.take_of_length_le (Nat.le_of_eq H.out)]
      rw [e2] at hown
      go_wp2
      go_ret
      obtain rfl := HB.out
      exact ⟨⟨_, _, _, rfl, hown⟩, hb⟩
end Go.Proofs.YtblibmalommdkaaGreat.Sc

/-
  What scrap.Size and scrap.Join answer, for every list.
-/
namespace Go.Proofs.YtblibmalommdkaaGreat.Sc
open Go.RowKit
theorem Rd.up {w w' : World} {A : Option Addr} {l : List S} (h : Rd w w.heap.size A l) (hb : Below w.heap.size w w') : Rd w' w'.heap.size A l := (h.below hb (Nat.le_refl _)).more hb.size
theorem RdL.one {w : World} {A : Option Addr} {n c : Nat} {l : List S} (h : Rd w w.heap.size A l) (hn : l.length = n) (T : TypeId) : RdL (w.alloc (.cells #[.slice A n c] T)) (w.alloc (.cells #[.slice A n c] T)).heap.size (some ⟨w.heap.size, 0, none⟩) [l] := by
  intro k l' hl
  cases k with
  | zero =>
    simp at hl; subst hl; subst hn
    exact ⟨w.heap.size, 0, A, c, rfl, by simp, by rw [Nat.zero_add, cell_new]; rfl, (h.alloc (Nat.le_refl _) _).more (by simp)⟩
  | succ k => simp at hl
theorem RdL.three {w : World} {A A1 A2 : Option Addr} {n c n1 c1 n2 c2 : Nat} {l l1 l2 : List S} (h : Rd w w.heap.size A l) (hn : l.length = n) (h1 : Rd w w.heap.size A1 l1) (hn1 : l1.length = n1) (h2 : Rd w w.heap.size A2 l2) (hn2 : l2.length = n2) (T : TypeId) :
    RdL (w.alloc (.cells #[.slice A n c, .slice A1 n1 c1, .slice A2 n2 c2] T)) (w.alloc (.cells #[.slice A n c, .slice A1 n1 c1, .slice A2 n2 c2] T)).heap.size (some ⟨w.heap.size, 0, none⟩) [l, l1, l2] := by
  subst hn; subst hn1; subst hn2
  intro k l' hl
  match k, hl with
  | 0, hl =>
    simp at hl; subst hl
    exact ⟨w.heap.size, 0, A, c, rfl, by simp, by rw [cell_new]; rfl, (h.alloc (Nat.le_refl _) _).more (by simp)⟩
  | 1, hl =>
    simp at hl; subst hl
    exact ⟨w.heap.size, 0, A1, c1, rfl, by simp, by rw [cell_new]; rfl, (h1.alloc (Nat.le_refl _) _).more (by simp)⟩
  | 2, hl =>
    simp at hl; subst hl
    exact ⟨w.heap.size, 0, A2, c2, rfl, by simp, by rw [cell_new]; rfl, (h2.alloc (Nat.le_refl _) _).more (by simp)⟩
  | k+3, hl => simp at hl
theorem below_up {w w1 w2 : World} (h : Below w.heap.size w w1) (h' : Below w1.heap.size w1 w2) : Below w.heap.size w w2 := h.trans (h'.mono h.size)

/-! ### Size, Join -/
open Classical in
noncomputable def sizeL (l : List S) : Int := if MayP l then tot l else 0
set_option maxRecDepth 100000 in
theorem Size_any (A : Option Addr) (len cap : Nat) (w : World) (l : List S) (hlen : l.length = len) (hr : Rd w w.heap.size A l) (hm : len ≤ 9223372036854775807) :
    Calls Tryz.prog 61 #[.slice A len cap] w fun e w' => e = .returned (.int .i64 (sizeL l)) ∧ Below w.heap.size w w' := by
  by_cases hM : MayP l
  · have e1 := mayB_of hM
    have hS : sizeL l = tot l := if_pos hM
    have HS := Lib.hid hS; clear hS
    have H := Lib.hid hlen; have HM := Lib.hid hM; have HR := Lib.hid hr
    clear hlen hM hr
    go_enter Tryz.func61, Tryz.ntmps61
    go_wp2_with fail
    refine (may_any A len cap _ l H.out HR.out hm).mono ?_
    rintro e w1 ⟨rfl, hb⟩
    have HB := Lib.hid hb
    clear hb
    go_wp2_with fail
    refine (size_any A len cap _ l H.out (HR.out.up HB.out) HM.out.1 HM.out.2).mono ?_
    rintro e w2 ⟨rfl, hb2⟩
    have HB2 := Lib.hid hb2
    clear hb2
    go_wp2_with fail
    go_ret
    exact ⟨ret_int HS.out.symm, below_up HB.out HB2.out⟩
  · have e1 := mayB_not hM
    have hS : sizeL l = 0 := if_neg hM
    have HS := Lib.hid hS; clear hS
    go_enter Tryz.func61, Tryz.ntmps61
    go_wp2_with fail
    refine (may_any A len cap _ l hlen hr hm).mono ?_
    rintro e w1 ⟨rfl, hb⟩
    go_wp2_with fail
    go_ret
    exact ⟨ret_int HS.out.symm, hb⟩

open Classical in
noncomputable def JoinL (l : List S) : List S := if MayP l then joinL l else []
theorem len_of_may {l : List S} (h : MayP l) : l.length ≤ 1099511627776 := by have := len_le_tot l h.1; have := h.2; omega
set_option maxRecDepth 100000 in
theorem Join_any (A : Option Addr) (len cap : Nat) (w : World) (l : List S) (hlen : l.length = len) (hr : Rd w w.heap.size A l) (hm : len ≤ 9223372036854775807) :
    Calls Tryz.prog 75 #[.slice A len cap] w fun e w' => (∃ A' n c, e = .returned (.slice A' n c) ∧ Own w' w.heap.size A' n c (JoinL l)) ∧ Below w.heap.size w w' := by
  by_cases hM : MayP l
  · have e1 := mayB_of hM
    have hS : JoinL l = joinL l := if_pos hM
    have HS := Lib.hid hS; clear hS
    have H := Lib.hid hlen; have HM := Lib.hid hM; have HR := Lib.hid hr
    clear hlen hM hr
    go_enter Tryz.func75, Tryz.ntmps75
    go_wp2_with fail
    refine (may_any A len cap _ l H.out HR.out hm).mono ?_
    rintro e w1 ⟨rfl, hb⟩
    have HB := Lib.hid hb
    clear hb
    go_wp2_with fail
    refine (joined_any _ 1 1 _ [l] rfl (RdL.one (HR.out.up HB.out) H.out _) (by simpa using HM.out.1) (by simp; have := HM.out.2; omega) (by omega)).mono ?_
    rintro e w2 ⟨⟨A', n, c, rfl, hown⟩, hb2⟩
    have HB2 := Lib.hid hb2
    clear hb2
    go_wp2_with fail
    go_ret
    refine ⟨⟨_, _, _, rfl, ?_⟩, (HB.out.alloc HB.out.size _).trans (HB2.out.mono (by simp; have := HB.out.size; omega))⟩
    rw [HS.out]
    simp at hown
    exact hown.mono (by have := HB.out.size; omega)
  · have e1 := mayB_not hM
    have hS : JoinL l = [] := if_neg hM
    have HS := Lib.hid hS; clear hS
    go_enter Tryz.func75, Tryz.ntmps75
    go_wp2_with fail
    refine (may_any A len cap _ l hlen hr hm).mono ?_
    rintro e w1 ⟨rfl, hb⟩
    go_wp2_with fail
    go_ret
    exact ⟨⟨_, _, _, rfl, by rw [HS.out]; exact Own.nil _ _⟩, hb⟩
end Go.Proofs.YtblibmalommdkaaGreat.Sc
