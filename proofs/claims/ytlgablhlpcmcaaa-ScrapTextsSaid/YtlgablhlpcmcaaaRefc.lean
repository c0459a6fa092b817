/-
  What the reference's Lent, Kept, Copy, Splice and Piece answer (Lent: of a list of at most 5 times 2^40 scraps less 2; Kept: of a list that was lent and is as it was).
-/
import Derived.Test.YtlgablhlpcmcaaaRefb
import Derived.Test.YtlgablhlpcmcaaaCuts
namespace Go.Proofs.Ytlgablhlpcmcaaa
open Go.RowKit
def mk2 : List S := [⟨7, 7, 7⟩, ⟨8, 8, 8⟩]
theorem Rd.left {w : World} {B : Nat} {A : Option Addr} {l m : List S} (h : Rd w B A (l ++ m)) : Rd w B A l := by
  intro k s hs
  exact h k s (by rw [List.getElem?_append_left ((List.getElem?_eq_some_iff.1 hs).1)]; exact hs)
theorem new_two (w : World) (g : Nat) (hg : g = w.heap.size) : ∀ j u, (cells mk2)[j]? = some u → (w.alloc (.cells #[.int .i64 7, .int .i64 7, .int .i64 7, .int .i64 8, .int .i64 8, .int .i64 8] 31)).cell? ((⟨g, 0, none⟩ : Addr).add j) = some u := by
  subst hg
  intro j u hu
  have hadd : (⟨w.heap.size, 0, none⟩ : Addr).add j = ⟨w.heap.size, j, none⟩ := by unfold Addr.add; split <;> simp_all
  rw [hadd, cell_new]
  simpa [cells, mk2] using hu
theorem Lent_any (A : Option Addr) (len cap : Nat) (w : World) (l : List S) (hlen : l.length = len) (hr : Rd w w.heap.size A l) (hnone : A = none → len = 0 ∧ cap = 0) (hm : (len + 2) * 24 ≤ 140737488355328) :
    Calls Try.prog 10 #[.slice A len cap] w fun e w' => (∃ g c, e = .returned (.slice (some ⟨g, 0, none⟩) len c) ∧ Own w' w.heap.size (some ⟨g, 0, none⟩) (len + 2) c (l ++ mk2)) ∧ Below w.heap.size w w' := by
  obtain ⟨i0, hi, hz0, hz1, hz2⟩ := info_parts info31
  have H := Lib.hid hlen; have HR := Lib.hid hr; have HN := Lib.hid hnone
  clear hlen hr hnone
  go_enter Try.func10, Try.ntmps10
  go_wp2_with (at_builtin; refine wpList_append_any rfl (.tmp 4) (.tmp 5) 22 rfl w.heap.size 31 i0 _ 3 24 Try.underlying22 hi hz0 hz1 hz2 rfl (by decide) _ _ _ rfl (Own.nil w w.heap.size).2 A len cap (cells l) rfl HN.out (by rw [cells_len, H.out]) HR.out.cells (cells_one_cell _) (by unfold maxLen; omega) (by omega) (by simp) ?_)
  intro v' w1 hown' hgrow
  have hown'' : w1.ownsRow w.heap.size 31 3 v' (0 + len) (cells [] ++ cells l) := by rw [Nat.zero_add]; exact hown'
  obtain ⟨⟨A5, c5, hv, hown5⟩, hbb, _, hsz5, _⟩ := appL_step (w := w) (Own.nil w w.heap.size) (Below.refl _ _) (Nat.le_refl _) (Below.refl _ _) H.out hown'' hgrow
  rw [Nat.zero_add, List.nil_append] at hown5
  rw [Nat.zero_add] at hv
  have HO5 := Lib.hid hown5
  have HBB := Lib.hid hbb
  rw [hv]
  clear hown' hown'' hgrow hv hown5 hbb
  go_wp2_with (at_builtin; refine wpList_append_own _ rfl (.tmp 7) (.tmp 10) 22 rfl w.heap.size 31 i0 _ 3 24 Try.underlying22 hi hz0 hz1 hz2 rfl (by decide) _ _ _ rfl (HO5.out.alloc _).2 ⟨w1.heap.size, 0, none⟩ 2 2 (cells mk2) rfl rfl (new_two _ _ rfl) (cells_one_cell _) (by unfold maxLen; omega) (by omega) (by simp; omega) ?_)
  intro v' w2 hown' hgrow _
  obtain ⟨⟨A6, c6, hv, hown6⟩, hbb, _, hsz6, _⟩ := appL_step HO5.out HBB.out hsz5 ((Below.refl _ _).alloc (Nat.le_refl _) _) (m := 2) (K := mk2) rfl hown' hgrow
  obtain ⟨g, rfl, _, _, hc6, hc7⟩ := hown6.form (by omega)
  have HO6 := Lib.hid hown6
  have HB6 := Lib.hid hbb
  unfold maxLen at hc7
  have hc8 : len ≤ c6 := by omega
  rw [hv]
  clear hown' hgrow hv hown6 hbb hsz6
  go_wp2_with fail
  go_ret
  exact ⟨⟨_, _, rfl, HO6.out⟩, HB6.out⟩

theorem Kept_any (A : Option Addr) (len cap : Nat) (A2 : Option Addr) (cap2 : Nat) (w : World) (l : List S) (hlen : l.length = len) (hr : Rd w w.heap.size A (l ++ mk2)) (hcap : len + 2 ≤ cap) (hcap2 : cap ≤ 9223372036854775807) (hr2 : Rd w w.heap.size A2 l) :
    Calls Try.prog 14 #[.slice A len cap, .slice A2 len cap2] w fun e w' => e = .returned (.bool true) ∧ Below w.heap.size w w' := by
  have H := Lib.hid hlen; have HR := Lib.hid hr; have HR2 := Lib.hid hr2
  clear hlen hr hr2
  go_enter Try.func14, Try.ntmps14
  go_wp2_with fail
  refine (Same_true A len cap A2 len cap2 _ l H.out HR.out.left (by omega) rfl HR2.out).mono ?_
  rintro e w1 ⟨rfl, hb⟩
  have HB1 := Lib.hid hb
  have hrd := HR.out.up hb
  obtain ⟨b, off, rfl, hb', c0, _, _⟩ := hrd len ⟨7, 7, 7⟩ (by rw [List.getElem?_append_right (by have := H.out; omega), H.out, Nat.sub_self]; rfl)
  obtain ⟨b2, off2, e2, _, d0, _, _⟩ := hrd (len+1) ⟨8, 8, 8⟩ (by rw [List.getElem?_append_right (by have := H.out; omega), H.out]; have e : len + 1 - len = 1 := by omega
                                                                  rw [e]; rfl)
  cases e2
  simp only at c0 d0
  clear hrd hb
  go_wp2_with fail
  go_ret
  exact ⟨rfl, HB1.out⟩

theorem Copy_any (A : Option Addr) (len cap : Nat) (w : World) (l : List Int) (hlen : l.length = len) (hr : RdB w w.heap.size A l) (hm : len ≤ 140737488355328) :
    Calls Try.prog 35 #[.slice A len cap] w fun e w' => (∃ A' n c, e = .returned (.slice A' n c) ∧ OwnB w' w.heap.size A' n c l) ∧ Below w.heap.size w w' := by
  obtain ⟨i0, hi, hz0, hz1, hz2⟩ := info_parts info5
  have H := Lib.hid hlen; have HR := Lib.hid hr
  clear hlen hr
  go_enter Try.func35, Try.ntmps35
  go_wp2_with fail
  generalize hBB : w.heap.size = BB at *
  have HB := Lib.hid hBB; clear hBB
  go_loopw [3, 4] (fun v i wr => ∃ k A' c, k ≤ len ∧ i = .int .i64 k ∧ v = .slice A' k c ∧ OwnB wr BB A' k c (l.take k) ∧ Below BB w wr) (fun _ i _ => len - (intOf i).toNat)
  case atStart => exact ⟨0, _, _, Nat.zero_le _, rfl, rfl, OwnB.nil _ _, Below.refl _ _⟩
  case round =>
    obtain ⟨k, A', c, hk, rfl, rfl, hown, hb⟩ := hrel
    have HO := Lib.hid hown
    have HBel := Lib.hid hb
    by_cases hlt : k < len
    · obtain ⟨x, hx⟩ := get_some l k (by have := H.out; omega)
      obtain ⟨b2, off2, rfl, hb2, c0⟩ := HR.out.below hb (Nat.le_refl _) k x hx
      have hsz : BB ≤ wr.heap.size := by have := hb.size; have := HB.out; omega
      have HT := Lib.hid (take_snoc l k x hx)
      clear hx hown hb
      go_wp2_with (at_builtin; refine wpList_append_own _ rfl _ _ 34 rfl BB 5 i0 _ 1 1 Try.underlying34 hi hz0 hz1 hz2 rfl (by decide) _ _ _ rfl (HO.out.alloc _).2 ⟨wr.heap.size, 0, none⟩ 1 1 (bcells [x]) rfl rfl (newb_one _ x _ rfl) (bcells_one _) (by unfold maxLen; omega) (by omega) (by simp; omega) ?_)
      intro v' w1 hown' hgrow _
      obtain ⟨⟨A'', c'', hv, hown2⟩, hb3, hst, hz3, hcl⟩ := appB_step HO.out HBel.out hsz ((Below.refl _ _).alloc (Nat.le_refl _) _) (m := 1) (K := [x]) rfl hown' hgrow
      rw [hv]
      clear hcl hgrow hown' hv
      go_wp2_with fail
      go_roundw
      case rel => exact ⟨k+1, A'', c'', by omega, by go_num, rfl, by rw [HT.out]; exact hown2, hb3⟩
      case measure => simp [intOf]; omega
    · obtain rfl : k = len := by omega
      clear hlt
      have e2 : l.take k = l := by rw [List.take_of_length_le (Nat.le_of_eq H.out)]
      rw [e2] at hown
      go_wp2_with fail
      go_ret
      obtain rfl := HB.out
      exact ⟨⟨_, _, _, rfl, hown⟩, HBel.out⟩

/-! ### What First leaves, by its bytes -/
theorem fa_bts (s : S) (n : Int) (h : 1 ≤ s.len) : bts (fa s n) = (sb s).take n.toNat := by
  unfold fa
  split
  · rw [bts_one]
    have h1 := sb_cut s 0 (min n s.len) (by omega) (by omega) (by omega)
    simp only [Int.add_zero, Int.sub_zero, Int.toNat_zero, List.drop_zero] at h1
    rw [h1]
    by_cases hn : n ≤ s.len
    · rw [Int.min_eq_left hn]
    · rw [List.take_of_length_le (by rw [sb_length]; omega), List.take_of_length_le (by rw [sb_length]; omega)]
  · have e : n.toNat = 0 := by omega
    rw [e]; rfl
theorem fb_bts (s : S) (n : Int) (h : 1 ≤ s.len) (hn : 0 ≤ n) : bts (fb s n) = (sb s).drop n.toNat := by
  unfold fb
  split
  · rename_i hlt
    rw [bts_one]
    have h1 := sb_cut s (min n s.len) s.len (by omega) (by omega) (by omega)
    rw [h1, List.take_of_length_le (by rw [sb_length]; omega)]
    have e : (min n s.len).toNat = n.toNat := by omega
    rw [e]
  · rw [List.drop_eq_nil_of_le (by rw [sb_length]; omega)]; rfl
theorem firstA_bts {l : List S} (h : Ok l) (n : Int) (hn : 0 ≤ n) : bts (firstA l n) = (bts l).take n.toNat := by
  induction l generalizing n with
  | nil => simp [firstA, bts]
  | cons a l ih =>
    have ha := h a (by simp)
    unfold okS at ha
    rw [firstA, bts_append, fa_bts a n (by omega), ih h.tail _ (by omega), bts_cons, List.take_append, sb_length]
    congr 2
    omega
theorem firstB_bts {l : List S} (h : Ok l) (n : Int) (hn : 0 ≤ n) : bts (firstB l n) = (bts l).drop n.toNat := by
  induction l generalizing n with
  | nil => simp [firstB, bts]
  | cons a l ih =>
    have ha := h a (by simp)
    unfold okS at ha
    rw [firstB, bts_append, fb_bts a n (by omega) hn, ih h.tail _ (by omega), bts_cons, List.drop_append, sb_length]
    congr 2
    omega
theorem firstA_ok {l : List S} (h : Ok l) (n : Int) : Ok (firstA l n) := by
  induction l generalizing n with
  | nil => exact ok_nil
  | cons a l ih =>
    refine Ok.append ?_ (ih h.tail _)
    have ha := h a (by simp)
    unfold fa
    split
    · intro t ht; simp at ht; subst ht; unfold okS at *; simp only; omega
    · exact ok_nil
theorem firstB_ok {l : List S} (h : Ok l) (n : Int) (hn : 0 ≤ n) : Ok (firstB l n) := by
  induction l generalizing n with
  | nil => exact ok_nil
  | cons a l ih =>
    have ha := h a (by simp)
    refine Ok.append ?_ (ih h.tail _ (by unfold okS at ha; omega))
    unfold fb
    split
    · intro t ht; simp at ht; subst ht; unfold okS at *; simp only; omega
    · exact ok_nil
theorem firstA_tot {l : List S} (h : Ok l) (n : Int) (hn : 0 ≤ n) (ht : n ≤ tot l) : tot (firstA l n) = n := by
  rw [← bts_length (firstA_ok h n), firstA_bts h n hn, List.length_take]
  have := bts_length h
  omega
theorem firstB_tot {l : List S} (h : Ok l) (n : Int) (hn : 0 ≤ n) (ht : n ≤ tot l) : tot (firstB l n) = tot l - n := by
  rw [← bts_length (firstB_ok h n hn), firstB_bts h n hn, List.length_drop]
  have := bts_length h
  omega
/-- The reference's splice and piece are the program's, by their bytes. -/
theorem ref_splice {l put : List S} (h : MayP l) (hp : MayP put) (at_ n : Int) (a0 : 0 ≤ at_) (n0 : 0 ≤ n) (_a1 : at_ ≤ tot l) (_n1 : n ≤ tot l - at_) :
    joinL (firstA l at_ ++ put ++ firstB (firstB l at_) n) = joinL (partL l 0 at_ ++ (put ++ partL l (at_ + n) (tot l))) := by
  have ob := firstB_ok h.1 at_ a0
  have hb := bts_length h.1
  apply joinL_congr (((firstA_ok h.1 _).append hp.1).append (firstB_ok ob n n0)) ((partL_ok h.1 _ _).append (hp.1.append (partL_ok h.1 _ _)))
  rw [bts_append, bts_append, bts_append, bts_append, firstA_bts h.1 _ a0, firstB_bts ob _ n0, firstB_bts h.1 _ a0, bts_partL h.1, bts_partL h.1]
  have e : (bts l).take (tot l).toNat = bts l := List.take_of_length_le (by omega)
  have e2 : (at_ + n).toNat = at_.toNat + n.toNat := by omega
  rw [e, e2, List.drop_drop]
  simp
theorem ref_piece {l : List S} (h : MayP l) (at_ n : Int) (a0 : 0 ≤ at_) (n0 : 0 ≤ n) :
    joinL (firstA (firstB l at_) n) = joinL (partL l at_ (at_ + n)) := by
  have ob := firstB_ok h.1 at_ a0
  apply joinL_congr (firstA_ok ob n) (partL_ok h.1 _ _)
  rw [firstA_bts ob _ n0, firstB_bts h.1 _ a0, bts_partL h.1]
  have e2 : (at_ + n).toNat = at_.toNat + n.toNat := by omega
  rw [e2, List.drop_take]
  have e4 : at_.toNat + n.toNat - at_.toNat = n.toNat := by omega
  rw [e4]
theorem ref_cut {l : List S} (h : MayP l) (at_ : Int) (a0 : 0 ≤ at_) (_a1 : at_ ≤ tot l) :
    joinL (firstA l at_) = joinL (partL l 0 at_) ∧ joinL (firstB l at_) = joinL (partL l at_ (tot l)) := by
  have hb := bts_length h.1
  constructor
  · apply joinL_congr (firstA_ok h.1 at_) (partL_ok h.1 _ _)
    rw [firstA_bts h.1 _ a0, bts_partL h.1]; simp
  · apply joinL_congr (firstB_ok h.1 at_ a0) (partL_ok h.1 _ _)
    rw [firstB_bts h.1 _ a0, bts_partL h.1]
    have e : (bts l).take (tot l).toNat = bts l := List.take_of_length_le (by omega)
    rw [e]
end Go.Proofs.Ytlgablhlpcmcaaa
