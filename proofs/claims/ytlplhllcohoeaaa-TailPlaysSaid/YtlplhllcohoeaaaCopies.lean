/-
  What the reference's Copy, Lent, Kept and Same answer, of bytes.
-/
import Derived.Test.YtlplhllcohoeaaaBase
import Derived.Test.YtlplhllcohoeaaaRows
import Derived.Outline
import Derived.BigQuiet
import Derived.Deep.QuietTactic
import Derived.Deep.DeepCutAuto
import Derived.WalkLawsBesides
import Derived.Handy
import Derived.Laws.AppendOwn
namespace Go.Proofs.Ytlplhllcohoeaaa
open Go.RowKit
theorem info5 : (Try.prog.info? 5).map (fun i => (i.zero, i.size, i.bytes)) = some (some (.int .u8 0), 1, 1) := by kernel_rfl
theorem info3 : (Try.prog.info? 3).map (fun i => (i.zero, i.size, i.bytes)) = some (some (.int .i64 0), 1, 8) := by kernel_rfl
def mk3 : List Int := [165, 90, 165]
theorem RdB.left {w : World} {B : Nat} {A : Option Addr} {l m : List Int} (h : RdB w B A (l ++ m)) : RdB w B A l := by
  intro k s hs
  exact h k s (by rw [List.getElem?_append_left ((List.getElem?_eq_some_iff.1 hs).1)]; exact hs)
theorem newb_three (w : World) (g : Nat) (hg : g = w.heap.size) : ∀ j u, (bcells mk3)[j]? = some u → (w.alloc (.cells #[.int .u8 165, .int .u8 90, .int .u8 165] 5)).cell? ((⟨g, 0, none⟩ : Addr).add j) = some u := by
  subst hg
  intro j u hu
  have hadd : (⟨w.heap.size, 0, none⟩ : Addr).add j = ⟨w.heap.size, j, none⟩ := by unfold Addr.add; split <;> simp_all
  rw [hadd, cell_new]
  simpa [bcells, mk3] using hu
theorem Same_true (A : Option Addr) (len cap : Nat) (A2 : Option Addr) (len2 cap2 : Nat) (w : World) (l : List Int) (hlen : l.length = len) (hr : RdB w w.heap.size A l) (hm : len ≤ 9223372036854775807) (hlen2 : len2 = len) (hr2 : RdB w w.heap.size A2 l) :
    Calls Try.prog 14 #[.slice A len cap, .slice A2 len2 cap2] w fun e w' => e = .returned (.bool true) ∧ Below w.heap.size w w' := by
  subst hlen2
  have H := Lib.hid hlen; have HR := Lib.hid hr; have HR2 := Lib.hid hr2
  clear hlen hr hr2
  go_enter Try.func14, Try.ntmps14
  go_wp2_with fail
  go_loopw [5] (fun i wr => ∃ k : Nat, k ≤ len2 ∧ i = .int .i64 k ∧ Below w.heap.size w wr) (fun i _ => len2 - (intOf i).toNat)
  case atStart => exact ⟨0, Nat.zero_le _, rfl, Below.refl _ _⟩
  case round =>
    obtain ⟨k, hk, rfl, hb⟩ := hrel
    by_cases hlt : k < len2
    · obtain ⟨s, hs⟩ := get_some l k (by have := H.out; omega)
      obtain ⟨b, off, rfl, hb', h0⟩ := HR.out.below hb (by omega) k s hs
      obtain ⟨b2, off2, rfl, hb2', g0⟩ := HR2.out.below hb (by omega) k s hs
      clear hs
      go_wp2_with fail
      go_quiet (fail)
      go_wp2_with fail
      go_roundw
      case rel => exact ⟨k+1, by omega, by go_num, belowDrewN hb _⟩
      case measure => simp [intOf]; omega
    · obtain rfl : k = len2 := by omega
      clear hlt
      go_wp2_with fail
      go_ret
      exact ⟨rfl, hb⟩
theorem Copy_any (A : Option Addr) (len cap : Nat) (w : World) (l : List Int) (hlen : l.length = len) (hr : RdB w w.heap.size A l) (hm : len ≤ 140737488355328) :
    Calls Try.prog 15 #[.slice A len cap] w fun e w' => (∃ A' c, e = .returned (.slice A' len c) ∧ OwnB w' w.heap.size A' len c l) ∧ Below w.heap.size w w' := by
  obtain ⟨i0, hi, hz0, hz1, hz2⟩ := info_parts info5
  have H := Lib.hid hlen; have HR := Lib.hid hr
  clear hlen hr
  go_enter Try.func15, Try.ntmps15
  go_wp2_with fail
  generalize hBB : w.heap.size = BB at *
  have HB := Lib.hid hBB; clear hBB
  go_loopw [3, 4] (fun v i wr => ∃ k A' c, k ≤ len ∧ i = .int .i64 k ∧ v = .slice A' k c ∧ OwnB wr BB A' k c (l.take k) ∧ Below BB w wr) (fun _ i _ => len - (intOf i).toNat)
  case atStart => exact ⟨0, _, _, Nat.zero_le _, rfl, rfl, OwnB.nil _ _, Below.refl _ _⟩
  case round =>
    obtain ⟨k, A', c, hk, rfl, rfl, hown, hb⟩ := hrel
    have HO := Lib.hid hown
    have HBel := Lib.hid hb
    by_cases hlt : k < len
    · obtain ⟨x, hx⟩ := get_some l k (by have := H.out; omega)
      obtain ⟨b2, off2, rfl, hb2, c0⟩ := HR.out.below hb (Nat.le_refl _) k x hx
      have hsz : BB ≤ wr.heap.size := by have := hb.size; have := HB.out; omega
      have HT := Lib.hid (take_snoc l k x hx)
      clear hx hown hb
      go_wp2_with (at_builtin; refine wpList_append_own _ rfl _ _ 22 rfl BB 5 i0 _ 1 1 Try.underlying22 hi hz0 hz1 hz2 rfl (by decide) _ _ _ rfl (HO.out.alloc _).2 ⟨wr.heap.size, 0, none⟩ 1 1 (bcells [x]) rfl rfl (newb_one _ x _ rfl) (bcells_one _) (by unfold maxLen; omega) (by omega) (by simp; omega) ?_)
      intro v' w1 hown' hgrow _
      obtain ⟨⟨A'', c'', hv, hown2⟩, hb3, hst, hz3, hcl⟩ := appB_step HO.out HBel.out hsz ((Below.refl _ _).alloc (Nat.le_refl _) _) (m := 1) (K := [x]) rfl hown' hgrow
      rw [hv]
      clear hcl hgrow hown' hv
      go_wp2_with fail
      go_roundw
      case rel => exact ⟨k+1, A'', c'', by omega, by go_num, rfl, by rw [HT.out]; exact hown2, hb3⟩
      case measure => simp [intOf]; omega
    · obtain rfl : k = len := by omega
      clear hlt
      have e2 : l.take k = l := by rw [List.take_of_length_le (Nat.le_of_eq H.out)]
      rw [e2] at hown
      go_wp2_with fail
      go_ret
      obtain rfl := HB.out
      exact ⟨⟨_, _, rfl, hown⟩, HBel.out⟩
theorem Lent_any (A : Option Addr) (len cap : Nat) (w : World) (l : List Int) (hlen : l.length = len) (hr : RdB w w.heap.size A l) (hm : len + 3 ≤ 140737488355328) :
    Calls Try.prog 37 #[.slice A len cap] w fun e w' => (∃ g c, e = .returned (.slice (some ⟨g, 0, none⟩) len c) ∧ OwnB w' w.heap.size (some ⟨g, 0, none⟩) (len + 3) c (l ++ mk3)) ∧ Below w.heap.size w w' := by
  obtain ⟨i0, hi, hz0, hz1, hz2⟩ := info_parts info5
  have H := Lib.hid hlen; have HR := Lib.hid hr
  clear hlen hr
  go_enter Try.func37, Try.ntmps37
  go_wp2_with fail
  refine (Copy_any A len cap _ l H.out HR.out (by omega)).mono ?_
  rintro e w1 ⟨⟨A5, c5, rfl, hown5⟩, hb⟩
  have HO5 := Lib.hid hown5
  have HBB := Lib.hid hb
  have hsz5 : w.heap.size ≤ w1.heap.size := hb.size
  clear hown5 hb
  go_wp2_with (at_builtin; refine wpList_append_own _ rfl _ _ 22 rfl w.heap.size 5 i0 _ 1 1 Try.underlying22 hi hz0 hz1 hz2 rfl (by decide) _ _ _ rfl (HO5.out.alloc _).2 ⟨w1.heap.size, 0, none⟩ 3 3 (bcells mk3) rfl rfl (newb_three _ _ rfl) (bcells_one _) (by unfold maxLen; omega) (by omega) (by simp; omega) ?_)
  intro v' w2 hown' hgrow _
  obtain ⟨⟨A6, c6, hv, hown6⟩, hbb, _, hsz6, _⟩ := appB_step HO5.out HBB.out hsz5 ((Below.refl _ _).alloc (Nat.le_refl _) _) (m := 3) (K := mk3) rfl hown' hgrow
  obtain ⟨g, rfl, _, _, hc6, hc7⟩ := hown6.form (by omega)
  have HO6 := Lib.hid hown6
  have HB6 := Lib.hid hbb
  unfold maxLen at hc7
  have hc8 : len ≤ c6 := by omega
  rw [hv]
  clear hown' hgrow hv hown6 hbb hsz6
  go_wp2_with fail
  go_ret
  exact ⟨⟨_, _, rfl, HO6.out⟩, HB6.out⟩
theorem Kept_any (A : Option Addr) (len cap : Nat) (A2 : Option Addr) (cap2 : Nat) (w : World) (l : List Int) (hlen : l.length = len) (hr : RdB w w.heap.size A (l ++ mk3)) (hcap : len + 3 ≤ cap) (hcap2 : cap ≤ 9223372036854775807) (hr2 : RdB w w.heap.size A2 l) :
    Calls Try.prog 38 #[.slice A len cap, .slice A2 len cap2] w fun e w' => e = .returned (.bool true) ∧ Below w.heap.size w w' := by
  have H := Lib.hid hlen; have HR := Lib.hid hr; have HR2 := Lib.hid hr2
  clear hlen hr hr2
  go_enter Try.func38, Try.ntmps38
  go_wp2_with fail
  refine (Same_true A len cap A2 len cap2 _ l H.out HR.out.left (by omega) rfl HR2.out).mono ?_
  rintro e w1 ⟨rfl, hb⟩
  have HB1 := Lib.hid hb
  have hrd := HR.out.up hb
  have hget : ∀ j : Nat, (l ++ mk3)[len + j]? = mk3[j]? := fun j => by rw [List.getElem?_append_right (by have := H.out; omega), H.out]; congr 1; omega
  obtain ⟨b, off, rfl, hb', c0⟩ := hrd (len + 0) 165 (by rw [hget]; rfl)
  obtain ⟨b2, off2, e2, _, c1⟩ := hrd (len+1) 90 (by rw [hget]; rfl)
  cases e2
  obtain ⟨b2, off2, e2, _, c2⟩ := hrd (len+2) 165 (by rw [hget]; rfl)
  cases e2
  rw [Nat.add_zero] at c0
  clear hrd hb hget
  go_wp2_with fail
  go_ret
  exact ⟨rfl, HB1.out⟩
end Go.Proofs.Ytlplhllcohoeaaa
