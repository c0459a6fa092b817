/-
  What the reference's Lent, Kept, Copy, Splice and Piece answer (Lent: of a list of at most 5 times 2^40 scraps less 2; Kept: of a list that was lent and is as it was).
-/
import Derived.Test.YtdpjblepcpjomaaSRefa
import Derived.Test.YtdpjblepcpjomaaSWalki
import Derived.Test.YtdpjblepcpjomaaSWalkh
namespace Go.Proofs.Ytdpjblepcpjomaa.Sc
open Go.RowKit
def mk2 : List S := [⟨7, 7, 7⟩, ⟨8, 8, 8⟩]
theorem Rd.left {w : World} {B : Nat} {A : Option Addr} {l m : List S} (h : Rd w B A (l ++ m)) : Rd w B A l := by
  intro k s hs
  exact h k s (by rw [List.getElem?_append_left ((List.getElem?_eq_some_iff.1 hs).1)]; exact hs)
theorem new_two (w : World) (g : Nat) (hg : g = w.heap.size) : ∀ j u, (cells mk2)[j]? = some u → (w.alloc (.cells #[.int .i64 7, .int .i64 7, .int .i64 7, .int .i64 8, .int .i64 8, .int .i64 8] 56)).cell? ((⟨g, 0, none⟩ : Addr).add j) = some u := by
  subst hg
  intro j u hu
  have hadd : (⟨w.heap.size, 0, none⟩ : Addr).add j = ⟨w.heap.size, j, none⟩ := by unfold Addr.add; split <;> simp_all
  rw [hadd, cell_new]
  simpa [cells, mk2] using hu
theorem Lent_any (A : Option Addr) (len cap : Nat) (w : World) (l : List S) (hlen : l.length = len) (hr : Rd w w.heap.size A l) (hnone : A = none → len = 0 ∧ cap = 0) (hm : (len + 2) * 24 ≤ 140737488355328) :
    Calls Try.prog 11 #[.slice A len cap] w fun e w' => (∃ g c, e = .returned (.slice (some ⟨g, 0, none⟩) len c) ∧ Own w' w.heap.size (some ⟨g, 0, none⟩) (len + 2) c (l ++ mk2)) ∧ Below w.heap.size w w' := by
  obtain ⟨i0, hi, hz0, hz1, hz2⟩ := info_parts info31
  have H := Lib.hid hlen; have HR := Lib.hid hr; have HN := Lib.hid hnone
  clear hlen hr hnone
  go_enter Try.func11, Try.ntmps11
  go_wp2_with (at_builtin; refine wpList_append_any rfl (.tmp 4) (.tmp 5) 22 rfl w.heap.size 56 i0 _ 3 24 Try.underlying22 hi hz0 hz1 hz2 rfl (by decide) _ _ _ rfl (Own.nil w w.heap.size).2 A len cap (cells l) rfl HN.out (by rw [cells_len, H.out]) HR.out.cells (cells_one_cell _) (by unfold maxLen; omega) (by omega) (by simp) ?_)
  intro v' w1 hown' hgrow
  have hown'' : w1.ownsRow w.heap.size 56 3 v' (0 + len) (cells [] ++ cells l) := by rw [Nat.zero_add]; exact hown'
  obtain ⟨⟨A5, c5, hv, hown5⟩, hbb, _, hsz5, _⟩ := appL_step (w := w) (Own.nil w w.heap.size) (Below.refl _ _) (Nat.le_refl _) (Below.refl _ _) H.out hown'' hgrow
  rw [Nat.zero_add, List.nil_append] at hown5
  rw [Nat.zero_add] at hv
  have HO5 := Lib.hid hown5
  have HBB := Lib.hid hbb
  rw [hv]
  clear hown' hown'' hgrow hv hown5 hbb
  go_wp2_with (at_builtin; refine wpList_append_own _ rfl (.tmp 7) (.tmp 10) 22 rfl w.heap.size 56 i0 _ 3 24 Try.underlying22 hi hz0 hz1 hz2 rfl (by decide) _ _ _ rfl (HO5.out.alloc _).2 ⟨w1.heap.size, 0, none⟩ 2 2 (cells mk2) rfl rfl (new_two _ _ rfl) (cells_one_cell _) (by unfold maxLen; omega) (by omega) (by simp; omega) ?_)
  intro v' w2 hown' hgrow _
  obtain ⟨⟨A6, c6, hv, hown6⟩, hbb, _, hsz6, _⟩ := appL_step HO5.out HBB.out hsz5 ((Below.refl _ _).alloc (Nat.le_refl _) _) (m := 2) (K := mk2) rfl hown' hgrow
  obtain ⟨g, rfl, _, _, hc6, hc7⟩ := hown6.form (by omega)
  have HO6 := Lib.hid hown6
  have HB6 := Lib.hid hbb
  unfold maxLen at hc7
  have hc8 : len ≤ c6 := by omega
  rw [hv]
  clear hown' hgrow hv hown6 hbb hsz6
  go_wp2_with fail
  go_ret
  exact ⟨⟨_, _, rfl, HO6.out⟩, HB6.out⟩

theorem Kept_any (A : Option Addr) (len cap : Nat) (A2 : Option Addr) (cap2 : Nat) (w : World) (l : List S) (hlen : l.length = len) (hr : Rd w w.heap.size A (l ++ mk2)) (hcap : len + 2 ≤ cap) (hcap2 : cap ≤ 9223372036854775807) (hr2 : Rd w w.heap.size A2 l) :
    Calls Try.prog 13 #[.slice A len cap, .slice A2 len cap2] w fun e w' => e = .returned (.bool true) ∧ Below w.heap.size w w' := by
  have H := Lib.hid hlen; have HR := Lib.hid hr; have HR2 := Lib.hid hr2
  clear hlen hr hr2
  go_enter Try.func13, Try.ntmps13
  go_wp2_with fail
  refine (Same_true A len cap A2 len cap2 _ l H.out HR.out.left (by omega) rfl HR2.out).mono ?_
  rintro e w1 ⟨rfl, hb⟩
  have HB1 := Lib.hid hb
  have hrd := HR.out.up hb
  obtain ⟨b, off, rfl, hb', c0, _, _⟩ := hrd len ⟨7, 7, 7⟩ (by rw [List.getElem?_append_right (by have := H.out; omega), H.out, Nat.sub_self]; rfl)
  obtain ⟨b2, off2, e2, _, d0, _, _⟩ := hrd (len+1) ⟨8, 8, 8⟩ (by rw [List.getElem?_append_right (by have := H.out; omega), H.out]; have e : len + 1 - len = 1 := by omega
                                                                  rw [e]; rfl)
  cases e2
  simp only at c0 d0
  clear hrd hb
  go_wp2_with fail
  go_ret
  exact ⟨rfl, HB1.out⟩

theorem Copy_any (A : Option Addr) (len cap : Nat) (w : World) (l : List Int) (hlen : l.length = len) (hr : RdB w w.heap.size A l) (hm : len ≤ 140737488355328) :
    Calls Try.prog 23 #[.slice A len cap] w fun e w' => (∃ A' n c, e = .returned (.slice A' n c) ∧ OwnB w' w.heap.size A' n c l) ∧ Below w.heap.size w w' := by
  obtain ⟨i0, hi, hz0, hz1, hz2⟩ := info_parts info5
  have H := Lib.hid hlen; have HR := Lib.hid hr
  clear hlen hr
  go_enter Try.func23, Try.ntmps23
  go_wp2_with fail
  generalize hBB : w.heap.size = BB at *
  have HB := Lib.hid hBB; clear hBB
  go_loopw [3, 4] (fun v i wr => ∃ k A' c, k ≤ len ∧ i = .int .i64 k ∧ v = .slice A' k c ∧ OwnB wr BB A' k c (l.take k) ∧ Below BB w wr) (fun _ i _ => len - (intOf i).toNat)
  case atStart => exact ⟨0, _, _, Nat.zero_le _, rfl, rfl, OwnB.nil _ _, Below.refl _ _⟩
  case round =>
    obtain ⟨k, A', c, hk, rfl, rfl, hown, hb⟩ := hrel
    have HO := Lib.hid hown
    have HBel := Lib.hid hb
    by_cases hlt : k < len
    · obtain ⟨x, hx⟩ := get_some l k (by have := H.out; omega)
      obtain ⟨b2, off2, rfl, hb2, c0⟩ := HR.out.below hb (Nat.le_refl _) k x hx
      have hsz : BB ≤ wr.heap.size := by have := hb.size; have := HB.out; omega
      have HT := Lib.hid (take_snoc l k x hx)
      clear hx hown hb
      go_wp2_with (at_builtin; refine wpList_append_own _ rfl _ _ 41 rfl BB 5 i0 _ 1 1 Try.underlying41 hi hz0 hz1 hz2 rfl (by decide) _ _ _ rfl (HO.out.alloc _).2 ⟨wr.heap.size, 0, none⟩ 1 1 (bcells [x]) rfl rfl (newb_one _ x _ rfl) (bcells_one _) (by unfold maxLen; omega) (by omega) (by simp; omega) ?_)
      intro v' w1 hown' hgrow _
      obtain ⟨⟨A'', c'', hv, hown2⟩, hb3, hst, hz3, hcl⟩ := appB_step HO.out HBel.out hsz ((Below.refl _ _).alloc (Nat.le_refl _) _) (m := 1) (K := [x]) rfl hown' hgrow
      rw [hv]
      clear hcl hgrow hown' hv
      go_wp2_with fail
      go_roundw
      case rel => exact ⟨k+1, A'', c'', by omega, by go_num, rfl, by rw [HT.out]; exact hown2, hb3⟩
      case measure => simp [intOf]; omega
    · obtain rfl : k = len := by omega
      clear hlt
      have e2 : l.take k = l := by rw [List.take_of_length_le (Nat.le_of_eq H.out)]
      rw [e2] at hown
      go_wp2_with fail
      go_ret
      obtain rfl := HB.out
      exact ⟨⟨_, _, _, rfl, hown⟩, HBel.out⟩

end Go.Proofs.Ytdpjblepcpjomaa.Sc
