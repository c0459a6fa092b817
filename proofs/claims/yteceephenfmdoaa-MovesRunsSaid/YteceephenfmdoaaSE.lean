/-
  SE: texts of one kind, one behind the other.
-/
import Derived.Test.YteceephenfmdoaaSD
import Derived.Test.YteceephenfmdoaaSA
import Derived.Test.YteceephenfmdoaaSC
/-
  What the reference's First answers: the first bytes of a list that may be, and the others.
-/
namespace Go.Proofs.Yteceephenfmdoaa.Sc
open Go.RowKit
def fa (s : S) (n : Int) : List S := if 0 < min n s.len then [⟨s.src, s.at_, min n s.len⟩] else []
def fb (s : S) (n : Int) : List S := if min n s.len < s.len then [⟨s.src, s.at_ + min n s.len, s.len - min n s.len⟩] else []
def firstA : List S → Int → List S
  | [], _ => []
  | s :: l, n => fa s n ++ firstA l (n - min n s.len)
def firstB : List S → Int → List S
  | [], _ => []
  | s :: l, n => fb s n ++ firstB l (n - min n s.len)
/-- What is left of a number behind a list. -/
def rest : List S → Int → Int
  | [], n => n
  | s :: l, n => rest l (n - min n s.len)
theorem rest_snoc (l : List S) (s : S) (n : Int) : rest (l ++ [s]) n = rest l n - min (rest l n) s.len := by
  induction l generalizing n with
  | nil => rfl
  | cons a l ih => simp only [List.cons_append, rest, ih]
theorem firstA_snoc (l : List S) (s : S) (n : Int) : firstA (l ++ [s]) n = firstA l n ++ fa s (rest l n) := by
  induction l generalizing n with
  | nil => simp [firstA, rest]
  | cons a l ih => simp only [List.cons_append, firstA, rest, ih, List.append_assoc]
theorem firstB_snoc (l : List S) (s : S) (n : Int) : firstB (l ++ [s]) n = firstB l n ++ fb s (rest l n) := by
  induction l generalizing n with
  | nil => simp [firstB, rest]
  | cons a l ih => simp only [List.cons_append, firstB, rest, ih, List.append_assoc]
theorem rest_le (l : List S) (h : Ok l) (n : Int) (hn : 0 ≤ n) : 0 ≤ rest l n ∧ rest l n ≤ n := by
  induction l generalizing n with
  | nil => exact ⟨hn, Int.le_refl _⟩
  | cons a l ih =>
    have ha := h a (by simp)
    unfold okS at ha
    have := ih h.tail (n - min n a.len) (by omega)
    simp only [rest]
    omega
theorem fa_len (s : S) (n : Int) : (fa s n).length ≤ 1 := by unfold fa; split <;> simp
theorem fb_len (s : S) (n : Int) : (fb s n).length ≤ 1 := by unfold fb; split <;> simp
theorem firstA_len (l : List S) (n : Int) : (firstA l n).length ≤ l.length := by
  induction l generalizing n with
  | nil => simp [firstA]
  | cons a l ih => have := ih (n - min n a.len); have := fa_len a n; simp only [firstA, List.length_append, List.length_cons]; omega
theorem firstB_len (l : List S) (n : Int) : (firstB l n).length ≤ l.length := by
  induction l generalizing n with
  | nil => simp [firstB]
  | cons a l ih => have := ih (n - min n a.len); have := fb_len a n; simp only [firstB, List.length_append, List.length_cons]; omega

set_option maxRecDepth 100000 in
set_option maxHeartbeats 800000 in
theorem First_any (A : Option Addr) (len cap : Nat) (n : Int) (w : World) (l : List S) (hlen : l.length = len) (hr : Rd w w.heap.size A l) (hL : Ok l) (ht : tot l ≤ 1099511627776) (hn0 : 0 ≤ n) (hn1 : n ≤ 1099511627776) :
    Calls Try.prog 57 #[.slice A len cap, .int .i64 n] w fun e w' => (∃ A' m c A2 m2 c2, e = .returned (.tuple #[.slice A' m c, .slice A2 m2 c2]) ∧ Own w' w.heap.size A' m c (firstA l n) ∧ Own w' w.heap.size A2 m2 c2 (firstB l n)) ∧ Below w.heap.size w w' := by
  have hm := len_le_tot l hL
  rw [hlen] at hm
  obtain ⟨i0, hi, hz0, hz1, hz2⟩ := info_parts info31
  have HR := Lib.hid hr; have HL := Lib.hid hL
  clear hr hL
  go_enter Try.func57, Try.ntmps57
  go_wp2_with fail
  have H := Lib.hid hlen; clear hlen
  generalize hBB : w.heap.size = BB at *
  have HB := Lib.hid hBB; clear hBB
  go_loopw [1, 6, 7, 8] (fun x va vb i wr => ∃ k A' m c A2 m2 c2, k ≤ len ∧ x = .int .i64 (rest (l.take k) n) ∧ i = .int .i64 k ∧ va = .slice A' m c ∧ vb = .slice A2 m2 c2 ∧ Own wr BB A' m c (firstA (l.take k) n) ∧ Own wr BB A2 m2 c2 (firstB (l.take k) n) ∧ Apart A' A2 ∧ Below BB w wr) (fun _ _ _ i _ => len - (intOf i).toNat)
  case atStart => exact ⟨0, _, _, _, _, _, _, Nat.zero_le _, rfl, rfl, rfl, rfl, Own.nil _ _, Own.nil _ _, Apart.nil_left _, Below.refl _ _⟩
  case round =>
    obtain ⟨k, A', m, c, A2, m2, c2, hk, rfl, rfl, rfl, rfl, hown, hown2, hap, hb⟩ := hrel
    have HO := Lib.hid hown; have HO2 := Lib.hid hown2; have HA := Lib.hid hap
    have HBel := Lib.hid hb
    by_cases hlt : k < len
    · obtain ⟨s, hs⟩ := get_some l k (by have := H.out; omega)
      obtain ⟨b2, off2, rfl, hb2, c0, c1, c2'⟩ := HR.out.below hb (Nat.le_refl _) k s hs
      have hsz : BB ≤ wr.heap.size := by have := hb.size; have := HB.out; omega
      have e1 := take_snoc l k s hs
      obtain ⟨o1, o2, o3, o4, o5⟩ := HL.out.at_ hs
      have hx := rest_le (l.take k) (HL.out.take k) n hn0
      have h4 : (l.take k).length ≤ k := List.length_take_le _ _
      have hma : m ≤ k := by have := firstA_len (l.take k) n; have := hown.1; omega
      have hmb : m2 ≤ k := by have := firstB_len (l.take k) n; have := hown2.1; omega
      have FA : firstA (l.take (k+1)) n = firstA (l.take k) n ++ fa s (rest (l.take k) n) := by rw [e1, firstA_snoc]
      have FB : firstB (l.take (k+1)) n = firstB (l.take k) n ++ fb s (rest (l.take k) n) := by rw [e1, firstB_snoc]
      have FR : rest (l.take (k+1)) n = rest (l.take k) n - min (rest (l.take k) n) s.len := by rw [e1, rest_snoc]
      obtain ⟨x0, x1⟩ := hx
      generalize rest (l.take k) n = X at *
      have FA := Lib.hid FA; have FB := Lib.hid FB; have FR := Lib.hid FR
      clear e1 hs h4 hown hown2 hap hb
      rcases (show (X = 0 ∧ X < s.len) ∨ (0 < X ∧ X < s.len) ∨ s.len < X ∨ X = s.len by omega) with ⟨hX, d1⟩ | ⟨d2, d1⟩ | d1 | hX
      · have hmin : min X s.len = X := by omega
        have hFa : fa s X = [] := by unfold fa; rw [if_neg (by omega)]
        have hFb : fb s X = [⟨s.src, s.at_ + X, s.len - X⟩] := by unfold fb; rw [if_pos (by omega), hmin]
        have hFr : X - min X s.len = 0 := by omega
        have HFa := Lib.hid hFa; have HFb := Lib.hid hFb; have HFr := Lib.hid hFr
        have d2 : X ≤ 0 := by omega
        clear hFa hFb hX hmin hFr
        go_wp2_with (at_builtin; refine wpList_append_block rfl (.tmp 40) (.tmp 52) 26 rfl BB 48 i0 _ 3 24 Try.underlying26 hi hz0 hz1 hz2 rfl (by decide) _ _ _ rfl ((HO2.out.alloc _).alloc _).2 ⟨wr.heap.size + 1, 0, none⟩ 1 1 (cells [⟨s.src, s.at_ + X, s.len - X⟩]) rfl rfl (new_one _ ⟨s.src, s.at_ + X, s.len - X⟩ _ (by simp)) (cells_one_cell _) (by unfold maxLen; omega) (by omega) (by simp; omega) ?_)
        intro v' w1 hown' hgrow hbl
        obtain ⟨⟨A'', c'', hv, ho1, hap1⟩, ho2, hb3, hz3, hcl⟩ := app2_step HO2.out HO.out HA.out.symm HBel.out hsz (((Below.refl _ _).alloc (Nat.le_refl _) _).alloc (by simp) _) hown' hgrow (by simpa using hbl)
        rw [hv]
        clear hcl hgrow hown' hv hbl
        go_wp2_with fail
        go_roundw
        case rel => exact ⟨k+1, A', m, c, A'', m2+1, c'', by omega, by rw [FR.out, HFr.out], by go_num, rfl, rfl, by rw [FA.out, HFa.out, List.append_nil]; exact ho2, by rw [FB.out, HFb.out]; exact ho1, hap1.symm, hb3⟩
        case measure => simp [intOf]; omega
      · have hmin : min X s.len = X := by omega
        have hFa : fa s X = [⟨s.src, s.at_, X⟩] := by unfold fa; rw [if_pos (by omega), hmin]
        have hFb : fb s X = [⟨s.src, s.at_ + X, s.len - X⟩] := by unfold fb; rw [if_pos (by omega), hmin]
        have hFr : X - min X s.len = 0 := by omega
        have HFa := Lib.hid hFa; have HFb := Lib.hid hFb; have HFr := Lib.hid hFr
        clear hFa hFb hmin hFr
        go_wp2_with (at_builtin; refine wpList_append_block rfl (.tmp 27) (.tmp 34) 26 rfl BB 48 i0 _ 3 24 Try.underlying26 hi hz0 hz1 hz2 rfl (by decide) _ _ _ rfl ((HO.out.alloc _).alloc _).2 ⟨wr.heap.size + 1, 0, none⟩ 1 1 (cells [⟨s.src, s.at_, X⟩]) rfl rfl (new_one _ ⟨s.src, s.at_, X⟩ _ (by simp)) (cells_one_cell _) (by unfold maxLen; omega) (by omega) (by simp; omega) ?_)
        intro v' w1 hown' hgrow hbl
        obtain ⟨⟨A'', c'', hv, ho1, hap1⟩, ho2, hb3, hz3, hcl⟩ := app2_step HO.out HO2.out HA.out HBel.out hsz (((Below.refl _ _).alloc (Nat.le_refl _) _).alloc (by simp) _) hown' hgrow (by simpa using hbl)
        have g0 := (hcl wr.heap.size 0 (Nat.le_refl _) (by simp; omega)).trans (cell_new1 _ _ _ _ _)
        have g1 := (hcl wr.heap.size 1 (Nat.le_refl _) (by simp; omega)).trans (cell_new1 _ _ _ _ _)
        have g2 := (hcl wr.heap.size 2 (Nat.le_refl _) (by simp; omega)).trans (cell_new1 _ _ _ _ _)
        simp at g0 g1 g2
        have hz4 : BB ≤ w1.heap.size := by simp at hz3; omega
        rw [hv]
        have HO3 := Lib.hid ho1; have HO4 := Lib.hid ho2; have HA3 := Lib.hid hap1; have HB3 := Lib.hid hb3
        clear hcl hgrow hown' hv hbl hz3 ho1 ho2 hap1 hb3
        go_wp2_with (at_builtin; refine wpList_append_block rfl (.tmp 40) (.tmp 52) 26 rfl BB 48 i0 _ 3 24 Try.underlying26 hi hz0 hz1 hz2 rfl (by decide) _ _ _ rfl (HO4.out.alloc _).2 ⟨w1.heap.size, 0, none⟩ 1 1 (cells [⟨s.src, s.at_ + X, s.len - X⟩]) rfl rfl (new_one _ ⟨s.src, s.at_ + X, s.len - X⟩ _ rfl) (cells_one_cell _) (by unfold maxLen; omega) (by omega) (by simp; omega) ?_)
        intro v' w2 hown' hgrow hbl
        obtain ⟨⟨A4, c4, hv, ho1, hap1⟩, ho2, hb3, hz3, hcl⟩ := app2_step HO4.out HO3.out HA3.out.symm HB3.out hz4 ((Below.refl _ _).alloc (Nat.le_refl _) _) hown' hgrow (by simpa using hbl)
        rw [hv]
        clear hcl hgrow hown' hv hbl
        go_wp2_with fail
        go_roundw
        case rel => exact ⟨k+1, A'', m+1, c'', A4, m2+1, c4, by omega, by rw [FR.out, HFr.out], by go_num, rfl, rfl, by rw [FA.out, HFa.out]; exact ho2, by rw [FB.out, HFb.out]; exact ho1, hap1.symm, hb3⟩
        case measure => simp [intOf]; omega
      · have hmin : min X s.len = s.len := by omega
        have hFa : fa s X = [⟨s.src, s.at_, s.len⟩] := by unfold fa; rw [if_pos (by omega), hmin]
        have hFb : fb s X = [] := by unfold fb; rw [if_neg (by omega)]
        have hFr : X - min X s.len = X - s.len := by rw [hmin]
        have HFa := Lib.hid hFa; have HFb := Lib.hid hFb; have HFr := Lib.hid hFr
        clear hFa hFb hmin hFr
        go_wp2_with (at_builtin; refine wpList_append_block rfl (.tmp 27) (.tmp 34) 26 rfl BB 48 i0 _ 3 24 Try.underlying26 hi hz0 hz1 hz2 rfl (by decide) _ _ _ rfl ((HO.out.alloc _).alloc _).2 ⟨wr.heap.size + 1, 0, none⟩ 1 1 (cells [⟨s.src, s.at_, s.len⟩]) rfl rfl (new_one _ ⟨s.src, s.at_, s.len⟩ _ (by simp)) (cells_one_cell _) (by unfold maxLen; omega) (by omega) (by simp; omega) ?_)
        intro v' w1 hown' hgrow hbl
        obtain ⟨⟨A'', c'', hv, ho1, hap1⟩, ho2, hb3, hz3, hcl⟩ := app2_step HO.out HO2.out HA.out HBel.out hsz (((Below.refl _ _).alloc (Nat.le_refl _) _).alloc (by simp) _) hown' hgrow (by simpa using hbl)
        have g2 := (hcl wr.heap.size 2 (Nat.le_refl _) (by simp; omega)).trans (cell_new1 _ _ _ _ _)
        simp at g2
        rw [hv]
        clear hcl hgrow hown' hv hbl
        go_wp2_with fail
        go_roundw
        case rel => exact ⟨k+1, A'', m+1, c'', A2, m2, c2, by omega, by rw [FR.out, HFr.out], by go_num, rfl, rfl, by rw [FA.out, HFa.out]; exact ho1, by rw [FB.out, HFb.out, List.append_nil]; exact ho2, hap1, hb3⟩
        case measure => simp [intOf]; omega
      · subst hX
        have hmin : min s.len s.len = s.len := by omega
        have hFa : fa s s.len = [⟨s.src, s.at_, s.len⟩] := by unfold fa; rw [if_pos (by omega), hmin]
        have hFb : fb s s.len = [] := by unfold fb; rw [if_neg (by omega)]
        have hFr : s.len - min s.len s.len = 0 := by omega
        have HFa := Lib.hid hFa; have HFb := Lib.hid hFb; have HFr := Lib.hid hFr
        clear hFa hFb hmin hFr
        go_wp2_with (at_builtin; refine wpList_append_block rfl (.tmp 27) (.tmp 34) 26 rfl BB 48 i0 _ 3 24 Try.underlying26 hi hz0 hz1 hz2 rfl (by decide) _ _ _ rfl ((HO.out.alloc _).alloc _).2 ⟨wr.heap.size + 1, 0, none⟩ 1 1 (cells [⟨s.src, s.at_, s.len⟩]) rfl rfl (new_one _ ⟨s.src, s.at_, s.len⟩ _ (by simp)) (cells_one_cell _) (by unfold maxLen; omega) (by omega) (by simp; omega) ?_)
        intro v' w1 hown' hgrow hbl
        obtain ⟨⟨A'', c'', hv, ho1, hap1⟩, ho2, hb3, hz3, hcl⟩ := app2_step HO.out HO2.out HA.out HBel.out hsz (((Below.refl _ _).alloc (Nat.le_refl _) _).alloc (by simp) _) hown' hgrow (by simpa using hbl)
        have g2 := (hcl wr.heap.size 2 (Nat.le_refl _) (by simp; omega)).trans (cell_new1 _ _ _ _ _)
        simp at g2
        rw [hv]
        clear hcl hgrow hown' hv hbl
        go_wp2_with fail
        go_roundw
        case rel => exact ⟨k+1, A'', m+1, c'', A2, m2, c2, by omega, by rw [FR.out, HFr.out], by go_num, rfl, rfl, by rw [FA.out, HFa.out]; exact ho1, by rw [FB.out, HFb.out, List.append_nil]; exact ho2, hap1, hb3⟩
        case measure => simp [intOf]; omega
    · obtain rfl : k = len := by omega
      clear hlt
      have e2 : l.take k = l := by rw [List.take_of_length_le (Nat.le_of_eq H.out)]
      rw [e2] at hown hown2
      go_wp2_with fail
      go_ret2
      obtain rfl := HB.out
      exact ⟨⟨_, _, _, _, _, _, rfl, hown, hown2⟩, HBel.out⟩
end Go.Proofs.Yteceephenfmdoaa.Sc

/-
  What the reference's Lent, Kept, Copy, Splice and Piece answer (Lent: of a list of at most 5 times 2^40 scraps less 2; Kept: of a list that was lent and is as it was).
-/
namespace Go.Proofs.Yteceephenfmdoaa.Sc
open Go.RowKit
def mk2 : List S := [⟨7, 7, 7⟩, ⟨8, 8, 8⟩]
theorem Rd.left {w : World} {B : Nat} {A : Option Addr} {l m : List S} (h : Rd w B A (l ++ m)) : Rd w B A l := by
  intro k s hs
  exact h k s (by rw [List.getElem?_append_left ((List.getElem?_eq_some_iff.1 hs).1)]; exact hs)
theorem new_two (w : World) (g : Nat) (hg : g = w.heap.size) : ∀ j u, (cells mk2)[j]? = some u → (w.alloc (.cells #[.int .i64 7, .int .i64 7, .int .i64 7, .int .i64 8, .int .i64 8, .int .i64 8] 48)).cell? ((⟨g, 0, none⟩ : Addr).add j) = some u := by
  subst hg
  intro j u hu
  have hadd : (⟨w.heap.size, 0, none⟩ : Addr).add j = ⟨w.heap.size, j, none⟩ := by unfold Addr.add; split <;> simp_all
  rw [hadd, cell_new]
  simpa [cells, mk2] using hu
set_option maxRecDepth 100000 in
theorem Lent_any (A : Option Addr) (len cap : Nat) (w : World) (l : List S) (hlen : l.length = len) (hr : Rd w w.heap.size A l) (hnone : A = none → len = 0 ∧ cap = 0) (hm : (len + 2) * 24 ≤ 140737488355328) :
    Calls Try.prog 14 #[.slice A len cap] w fun e w' => (∃ g c, e = .returned (.slice (some ⟨g, 0, none⟩) len c) ∧ Own w' w.heap.size (some ⟨g, 0, none⟩) (len + 2) c (l ++ mk2)) ∧ Below w.heap.size w w' := by
  obtain ⟨i0, hi, hz0, hz1, hz2⟩ := info_parts info31
  have H := Lib.hid hlen; have HR := Lib.hid hr; have HN := Lib.hid hnone
  clear hlen hr hnone
  go_enter Try.func14, Try.ntmps14
  go_wp2_with (at_builtin; refine wpList_append_any rfl (.tmp 4) (.tmp 5) 26 rfl w.heap.size 48 i0 _ 3 24 Try.underlying26 hi hz0 hz1 hz2 rfl (by decide) _ _ _ rfl (Own.nil w w.heap.size).2 A len cap (cells l) rfl HN.out (by rw [cells_len, H.out]) HR.out.cells (cells_one_cell _) (by unfold maxLen; omega) (by omega) (by simp) ?_)
  intro v' w1 hown' hgrow
  have hown'' : w1.ownsRow w.heap.size 48 3 v' (0 + len) (cells [] ++ cells l) := by rw [Nat.zero_add]; exact hown'
  obtain ⟨⟨A5, c5, hv, hown5⟩, hbb, _, hsz5, _⟩ := appL_step (w := w) (Own.nil w w.heap.size) (Below.refl _ _) (Nat.le_refl _) (Below.refl _ _) H.out hown'' hgrow
  rw [Nat.zero_add, List.nil_append] at hown5
  rw [Nat.zero_add] at hv
  have HO5 := Lib.hid hown5
  have HBB := Lib.hid hbb
  rw [hv]
  clear hown' hown'' hgrow hv hown5 hbb
  go_wp2_with (at_builtin; refine wpList_append_own _ rfl (.tmp 7) (.tmp 10) 26 rfl w.heap.size 48 i0 _ 3 24 Try.underlying26 hi hz0 hz1 hz2 rfl (by decide) _ _ _ rfl (HO5.out.alloc _).2 ⟨w1.heap.size, 0, none⟩ 2 2 (cells mk2) rfl rfl (new_two _ _ rfl) (cells_one_cell _) (by unfold maxLen; omega) (by omega) (by simp; omega) ?_)
  intro v' w2 hown' hgrow _
  obtain ⟨⟨A6, c6, hv, hown6⟩, hbb, _, hsz6, _⟩ := appL_step HO5.out HBB.out hsz5 ((Below.refl _ _).alloc (Nat.le_refl _) _) (m := 2) (K := mk2) rfl hown' hgrow
  obtain ⟨g, rfl, _, _, hc6, hc7⟩ := hown6.form (by omega)
  have HO6 := Lib.hid hown6
  have HB6 := Lib.hid hbb
  unfold maxLen at hc7
  have hc8 : len ≤ c6 := by omega
  rw [hv]
  clear hown' hgrow hv hown6 hbb hsz6
  go_wp2_with fail
  go_ret
  exact ⟨⟨_, _, rfl, HO6.out⟩, HB6.out⟩

set_option maxRecDepth 100000 in
theorem Kept_any (A : Option Addr) (len cap : Nat) (A2 : Option Addr) (cap2 : Nat) (w : World) (l : List S) (hlen : l.length = len) (hr : Rd w w.heap.size A (l ++ mk2)) (hcap : len + 2 ≤ cap) (hcap2 : cap ≤ 9223372036854775807) (hr2 : Rd w w.heap.size A2 l) :
    Calls Try.prog 18 #[.slice A len cap, .slice A2 len cap2] w fun e w' => e = .returned (.bool true) ∧ Below w.heap.size w w' := by
  have H := Lib.hid hlen; have HR := Lib.hid hr; have HR2 := Lib.hid hr2
  clear hlen hr hr2
  go_enter Try.func18, Try.ntmps18
  go_wp2_with fail
  refine (Same_true A len cap A2 len cap2 _ l H.out HR.out.left (by omega) rfl HR2.out).mono ?_
  rintro e w1 ⟨rfl, hb⟩
  have HB1 := Lib.hid hb
  have hrd := HR.out.up hb
  obtain ⟨b, off, rfl, hb', c0, _, _⟩ := hrd len ⟨7, 7, 7⟩ (by rw [List.getElem?_append_right (by have := H.out; omega), H.out, Nat.sub_self]; rfl)
  obtain ⟨b2, off2, e2, _, d0, _, _⟩ := hrd (len+1) ⟨8, 8, 8⟩ (by rw [List.getElem?_append_right (by have := H.out; omega), H.out]; have e : len + 1 - len = 1 := by omega
                                                                  rw [e]; rfl)
  cases e2
  simp only at c0 d0
  clear hrd hb
  go_wp2_with fail
  go_ret
  exact ⟨rfl, HB1.out⟩

set_option maxRecDepth 100000 in
theorem Copy_any (A : Option Addr) (len cap : Nat) (w : World) (l : List Int) (hlen : l.length = len) (hr : RdB w w.heap.size A l) (hm : len ≤ 140737488355328) :
    Calls Try.prog 35 #[.slice A len cap] w fun e w' => (∃ A' n c, e = .returned (.slice A' n c) ∧ OwnB w' w.heap.size A' n c l) ∧ Below w.heap.size w w' := by
  obtain ⟨i0, hi, hz0, hz1, hz2⟩ := info_parts info5
  have H := Lib.hid hlen; have HR := Lib.hid hr
  clear hlen hr
  go_enter Try.func35, Try.ntmps35
  go_wp2_with fail
  generalize hBB : w.heap.size = BB at *
  have HB := Lib.hid hBB; clear hBB
  go_loopw [3, 4] (fun v i wr => ∃ k A' c, k ≤ len ∧ i = .int .i64 k ∧ v = .slice A' k c ∧ OwnB wr BB A' k c (l.take k) ∧ Below BB w wr) (fun _ i _ => len - (intOf i).toNat)
  case atStart => exact ⟨0, _, _, Nat.zero_le _, rfl, rfl, OwnB.nil _ _, Below.refl _ _⟩
  case round =>
    obtain ⟨k, A', c, hk, rfl, rfl, hown, hb⟩ := hrel
    have HO := Lib.hid hown
    have HBel := Lib.hid hb
    by_cases hlt : k < len
    · obtain ⟨x, hx⟩ := get_some l k (by have := H.out; omega)
      obtain ⟨b2, off2, rfl, hb2, c0⟩ := HR.out.below hb (Nat.le_refl _) k x hx
      have hsz : BB ≤ wr.heap.size := by have := hb.size; have := HB.out; omega
      have HT := Lib.hid (take_snoc l k x hx)
      clear hx hown hb
      go_wp2_with (at_builtin; refine wpList_append_own _ rfl _ _ 22 rfl BB 5 i0 _ 1 1 Try.underlying22 hi hz0 hz1 hz2 rfl (by decide) _ _ _ rfl (HO.out.alloc _).2 ⟨wr.heap.size, 0, none⟩ 1 1 (bcells [x]) rfl rfl (newb_one _ x _ rfl) (bcells_one _) (by unfold maxLen; omega) (by omega) (by simp; omega) ?_)
      intro v' w1 hown' hgrow _
      obtain ⟨⟨A'', c'', hv, hown2⟩, hb3, hst, hz3, hcl⟩ := appB_step HO.out HBel.out hsz ((Below.refl _ _).alloc (Nat.le_refl _) _) (m := 1) (K := [x]) rfl hown' hgrow
      rw [hv]
      clear hcl hgrow hown' hv
      go_wp2_with fail
      go_roundw
      case rel => exact ⟨k+1, A'', c'', by omega, by go_num, rfl, by rw [HT.out]; exact hown2, hb3⟩
      case measure => simp [intOf]; omega
    · obtain rfl : k = len := by omega
      clear hlt
      have e2 : l.take k = l := by rw [List.take_of_length_le (Nat.le_of_eq H.out)]
      rw [e2] at hown
      go_wp2_with fail
      go_ret
      obtain rfl := HB.out
      exact ⟨⟨_, _, _, rfl, hown⟩, HBel.out⟩

/-! ### What First leaves, by its bytes -/
theorem fa_bts (s : S) (n : Int) (h : 1 ≤ s.len) : bts (fa s n) = (sb s).take n.toNat := by
  unfold fa
  split
  · rw [bts_one]
    have h1 := sb_cut s 0 (min n s.len) (by omega) (by omega) (by omega)
    simp only [Int.add_zero, Int.sub_zero, Int.toNat_zero, List.drop_zero] at h1
    rw [h1]
    by_cases hn : n ≤ s.len
    · rw [Int.min_eq_left hn]
    · rw [List.take_of_length_le (by rw [sb_length]; omega), List.take_of_length_le (by rw [sb_length]; omega)]
  · have e : n.toNat = 0 := by omega
    rw [e]; rfl
theorem fb_bts (s : S) (n : Int) (h : 1 ≤ s.len) (hn : 0 ≤ n) : bts (fb s n) = (sb s).drop n.toNat := by
  unfold fb
  split
  · rename_i hlt
    rw [bts_one]
    have h1 := sb_cut s (min n s.len) s.len (by omega) (by omega) (by omega)
    rw [h1, List.take_of_length_le (by rw [sb_length]; omega)]
    have e : (min n s.len).toNat = n.toNat := by omega
    rw [e]
  · rw [List.drop_eq_nil_of_le (by rw [sb_length]; omega)]; rfl
theorem firstA_bts {l : List S} (h : Ok l) (n : Int) (hn : 0 ≤ n) : bts (firstA l n) = (bts l).take n.toNat := by
  induction l generalizing n with
  | nil => simp [firstA, bts]
  | cons a l ih =>
    have ha := h a (by simp)
    unfold okS at ha
    rw [firstA, bts_append, fa_bts a n (by omega), ih h.tail _ (by omega), bts_cons, List.take_append, sb_length]
    congr 2
    omega
theorem firstB_bts {l : List S} (h : Ok l) (n : Int) (hn : 0 ≤ n) : bts (firstB l n) = (bts l).drop n.toNat := by
  induction l generalizing n with
  | nil => simp [firstB, bts]
  | cons a l ih =>
    have ha := h a (by simp)
    unfold okS at ha
    rw [firstB, bts_append, fb_bts a n (by omega) hn, ih h.tail _ (by omega), bts_cons, List.drop_append, sb_length]
    congr 2
    omega
theorem firstA_ok {l : List S} (h : Ok l) (n : Int) : Ok (firstA l n) := by
  induction l generalizing n with
  | nil => exact ok_nil
  | cons a l ih =>
    refine Ok.append ?_ (ih h.tail _)
    have ha := h a (by simp)
    unfold fa
    split
    · intro t ht; simp at ht; subst ht; unfold okS at *; simp only; omega
    · exact ok_nil
theorem firstB_ok {l : List S} (h : Ok l) (n : Int) (hn : 0 ≤ n) : Ok (firstB l n) := by
  induction l generalizing n with
  | nil => exact ok_nil
  | cons a l ih =>
    have ha := h a (by simp)
    refine Ok.append ?_ (ih h.tail _ (by unfold okS at ha; omega))
    unfold fb
    split
    · intro t ht; simp at ht; subst ht; unfold okS at *; simp only; omega
    · exact ok_nil
theorem firstA_tot {l : List S} (h : Ok l) (n : Int) (hn : 0 ≤ n) (ht : n ≤ tot l) : tot (firstA l n) = n := by
  rw [← bts_length (firstA_ok h n), firstA_bts h n hn, List.length_take]
  have := bts_length h
  omega
theorem firstB_tot {l : List S} (h : Ok l) (n : Int) (hn : 0 ≤ n) (ht : n ≤ tot l) : tot (firstB l n) = tot l - n := by
  rw [← bts_length (firstB_ok h n hn), firstB_bts h n hn, List.length_drop]
  have := bts_length h
  omega
/-- The reference's splice and piece are the program's, by their bytes. -/
theorem ref_splice {l put : List S} (h : MayP l) (hp : MayP put) (at_ n : Int) (a0 : 0 ≤ at_) (n0 : 0 ≤ n) (_a1 : at_ ≤ tot l) (_n1 : n ≤ tot l - at_) :
    joinL (firstA l at_ ++ put ++ firstB (firstB l at_) n) = joinL (partL l 0 at_ ++ (put ++ partL l (at_ + n) (tot l))) := by
  have ob := firstB_ok h.1 at_ a0
  have hb := bts_length h.1
  apply joinL_congr (((firstA_ok h.1 _).append hp.1).append (firstB_ok ob n n0)) ((partL_ok h.1 _ _).append (hp.1.append (partL_ok h.1 _ _)))
  rw [bts_append, bts_append, bts_append, bts_append, firstA_bts h.1 _ a0, firstB_bts ob _ n0, firstB_bts h.1 _ a0, bts_partL h.1, bts_partL h.1]
  have e : (bts l).take (tot l).toNat = bts l := List.take_of_length_le (by omega)
  have e2 : (at_ + n).toNat = at_.toNat + n.toNat := by omega
  rw [e, e2, List.drop_drop]
  simp
theorem ref_piece {l : List S} (h : MayP l) (at_ n : Int) (a0 : 0 ≤ at_) (n0 : 0 ≤ n) :
    joinL (firstA (firstB l at_) n) = joinL (partL l at_ (at_ + n)) := by
  have ob := firstB_ok h.1 at_ a0
  apply joinL_congr (firstA_ok ob n) (partL_ok h.1 _ _)
  rw [firstA_bts ob _ n0, firstB_bts h.1 _ a0, bts_partL h.1]
  have e2 : (at_ + n).toNat = at_.toNat + n.toNat := by omega
  rw [e2, List.drop_take]
  have e4 : at_.toNat + n.toNat - at_.toNat = n.toNat := by omega
  rw [e4]
theorem ref_cut {l : List S} (h : MayP l) (at_ : Int) (a0 : 0 ≤ at_) (_a1 : at_ ≤ tot l) :
    joinL (firstA l at_) = joinL (partL l 0 at_) ∧ joinL (firstB l at_) = joinL (partL l at_ (tot l)) := by
  have hb := bts_length h.1
  constructor
  · apply joinL_congr (firstA_ok h.1 at_) (partL_ok h.1 _ _)
    rw [firstA_bts h.1 _ a0, bts_partL h.1]; simp
  · apply joinL_congr (firstB_ok h.1 at_ a0) (partL_ok h.1 _ _)
    rw [firstB_bts h.1 _ a0, bts_partL h.1]
    have e : (bts l).take (tot l).toNat = bts l := List.take_of_length_le (by omega)
    rw [e]
end Go.Proofs.Yteceephenfmdoaa.Sc

/-
  What the reference's Splice, Piece and Text answer: what the program's do, for every list and all numbers.
-/
namespace Go.Proofs.Yteceephenfmdoaa.Sc
open Go.RowKit
set_option maxRecDepth 100000 in
theorem refPiece_any (A : Option Addr) (len cap : Nat) (at_ n : Int) (w : World) (l : List S) (hlen : l.length = len) (hr : Rd w w.heap.size A l) (hm : len ≤ 9223372036854775807) (a0 : -9223372036854775808 ≤ at_) (a1 : at_ ≤ 9223372036854775807)
    (n0 : -9223372036854775808 ≤ n) (n1 : n ≤ 9223372036854775807) :
    Calls Try.prog 22 #[.slice A len cap, .int .i64 at_, .int .i64 n] w fun e w' => (∃ A' m c, e = .returned (.tuple #[.slice A' m c, .int .i64 (pieceE l at_ n)]) ∧ Own w' w.heap.size A' m c (pieceL l at_ n)) ∧ Below w.heap.size w w' := by
  by_cases hM : MayP l
  · have e1 := mayB_of hM
    have t0 := tot_nonneg l hM.1
    have t1 := hM.2
    have H := Lib.hid hlen; have HM := Lib.hid hM; have HR := Lib.hid hr
    by_cases hc : at_ < 0 ∨ n < 0 ∨ tot l < at_ ∨ tot l - at_ < n
    · have hE : pieceE l at_ n = 2 := by unfold pieceE; rw [if_neg (by simpa using hM), if_pos hc]
      have hP : pieceL l at_ n = [] := by unfold pieceL; rw [if_neg (by rw [hE]; decide)]
      have HE := Lib.hid hE; have HP := Lib.hid hP
      clear hlen hM hr hE hP
      go_enter Try.func22, Try.ntmps22
      go_wp2_with fail
      refine (refMay_any A len cap _ l H.out HR.out hm).mono ?_
      rintro e w1 ⟨rfl, hb⟩
      have HB := Lib.hid hb
      clear hb
      go_wp2_with fail
      refine (refSize_any A len cap _ l H.out (HR.out.up HB.out) HM.out.1 HM.out.2).mono ?_
      rintro e w2 ⟨rfl, hb2⟩
      have HB2 := Lib.hid hb2
      clear hb2
      go_wp2_with fail
      all_goals
        go_ret2
        rw [HE.out, HP.out]
        exact ⟨⟨_, _, _, rfl, Own.nil _ _⟩, below_up HB.out HB2.out⟩
    · have hE : pieceE l at_ n = 0 := by unfold pieceE; rw [if_neg (by simpa using hM), if_neg hc]
      have x0 : 0 ≤ at_ := by omega
      have x1 : 0 ≤ n := by omega
      have x2 : at_ ≤ tot l := by omega
      have x3 : n ≤ tot l - at_ := by omega
      have hP : pieceL l at_ n = joinL (firstA (firstB l at_) n) := by unfold pieceL; rw [if_pos hE, ref_piece hM at_ n x0 x1]
      have ob := firstB_ok hM.1 at_ x0
      have tb := firstB_tot hM.1 at_ x0 x2
      have ta := firstA_tot ob n x1 (by omega)
      have oa := firstA_ok ob n
      have HE := Lib.hid hE; have HP := Lib.hid hP; have HOB := Lib.hid ob; have HTB := Lib.hid tb; have HTA := Lib.hid ta; have HOA := Lib.hid oa
      clear hlen hM hr hE hP hc ob tb ta oa
      go_enter Try.func22, Try.ntmps22
      go_wp2_with fail
      refine (refMay_any A len cap _ l H.out HR.out hm).mono ?_
      rintro e w1 ⟨rfl, hb⟩
      have HB := Lib.hid hb
      clear hb
      go_wp2_with fail
      refine (refSize_any A len cap _ l H.out (HR.out.up HB.out) HM.out.1 HM.out.2).mono ?_
      rintro e w2 ⟨rfl, hb2⟩
      have HB2 := Lib.hid (below_up HB.out hb2)
      have HR2 := Lib.hid ((HR.out.up HB.out).up hb2)
      clear hb2
      go_wp2_with fail
      refine (First_any A len cap _ _ l H.out HR2.out HM.out.1 HM.out.2 (by omega) (by omega)).mono ?_
      rintro e w5 ⟨⟨A3, m3, c3, A4, m4, c4, rfl, hown3, hown4⟩, hb5⟩
      have HO4 := Lib.hid hown4
      have HB5 := Lib.hid (below_up HB2.out hb5)
      clear hb5 hown3 hown4
      go_wp2_with fail
      refine (First_any A4 m4 c4 _ _ (firstB l at_) HO4.out.1 HO4.out.rd HOB.out (by have := HTB.out; omega) (by omega) (by omega)).mono ?_
      rintro e w6 ⟨⟨A5, m5, c5, A6, m6, c6, rfl, hown5, hown6⟩, hb6⟩
      have HO5 := Lib.hid hown5
      have HB6 := Lib.hid (below_up HB5.out hb6)
      clear hb6 hown5 hown6
      go_wp2_with fail
      refine (refJoin_any A5 m5 c5 _ (firstA (firstB l at_) n) HO5.out.1 HO5.out.rd HOA.out (by have := HTA.out; omega)).mono ?_
      rintro e w7 ⟨⟨A7, m7, c7, rfl, hown7⟩, hb7⟩
      have HO7 := Lib.hid (hown7.mono (base' := w.heap.size) HB6.out.size)
      have HB7 := Lib.hid (below_up HB6.out hb7)
      clear hb7 hown7
      go_wp2_with fail
      go_ret2
      rw [HE.out, HP.out]
      exact ⟨⟨_, _, _, rfl, HO7.out⟩, HB7.out⟩
  · have e1 := mayB_not hM
    have hE : pieceE l at_ n = 1 := by unfold pieceE; rw [if_pos hM]
    have hP : pieceL l at_ n = [] := by unfold pieceL; rw [if_neg (by rw [hE]; decide)]
    have HE := Lib.hid hE; have HP := Lib.hid hP
    clear hE hP
    go_enter Try.func22, Try.ntmps22
    go_wp2_with fail
    refine (refMay_any A len cap _ l hlen hr hm).mono ?_
    rintro e w1 ⟨rfl, hb⟩
    go_wp2_with fail
    go_ret2
    rw [HE.out, HP.out]
    exact ⟨⟨_, _, _, rfl, Own.nil _ _⟩, hb⟩
set_option maxRecDepth 100000 in
set_option maxHeartbeats 800000 in
theorem refText_any (A : Option Addr) (len cap : Nat) (As : Option Addr) (ns cs : Nat) (w : World) (l : List S) (srcs : List (List Int)) (hlen : l.length = len) (hr : Rd w w.heap.size A l) (hm : len ≤ 9223372036854775807)
    (hls : srcs.length = ns) (hrs : RdBL w w.heap.size As srcs) (_hms : ns ≤ 9223372036854775807) :
    Calls Try.prog 17 #[.slice A len cap, .slice As ns cs] w (TextR w srcs l) := by
  have H := Lib.hid hlen; have HR := Lib.hid hr
  have HLS := Lib.hid hls; have HRS := Lib.hid hrs
  clear hlen hr hls hrs
  obtain ⟨i0, hi, hz0, hz1, hz2⟩ := info_parts info5
  by_cases hM : MayP l
  · have e1 := mayB_of hM
    have t1 := hM.2
    have HM := Lib.hid hM
    have hTE : TextE srcs l = textE srcs l := by unfold TextE; rw [if_pos hM]
    have HTE := Lib.hid hTE
    clear hM hTE
    go_enter Try.func17, Try.ntmps17
    go_wp2_with fail
    refine (refMay_any A len cap _ l H.out HR.out hm).mono ?_
    rintro e w1 ⟨rfl, hb1⟩
    have HR1 := Lib.hid (HR.out.up hb1)
    have HRS1 := Lib.hid (HRS.out.up hb1)
    have HB1 := Lib.hid hb1
    clear hb1
    go_wp2_with fail
    generalize hBB : w1.heap.size = BB at *
    have HBB := Lib.hid hBB; clear hBB
    go_loopw [6, 7] (fun v i wr => ∃ k A' n c, k ≤ len ∧ i = .int .i64 k ∧ v = .slice A' n c ∧ Hid (∀ s ∈ l.take k, Has srcs s) ∧ OwnB wr BB A' n c (textB srcs (l.take k)) ∧ Below BB w1 wr) (fun _ i _ => len - (intOf i).toNat)
    case atStart => exact ⟨0, _, _, _, Nat.zero_le _, rfl, rfl, Lib.hid (fun s hs => by simp at hs), OwnB.nil _ _, Below.refl _ _⟩
    case round =>
      obtain ⟨k, A', n, c, hk, rfl, rfl, hhas, hown, hb⟩ := hrel
      have HO := Lib.hid hown
      have HBel := Lib.hid hb
      have hsz : BB ≤ wr.heap.size := by have := hb.size; have := HBB.out; omega
      by_cases hlt : k < len
      · obtain ⟨s, hs⟩ := get_some l k (by have := H.out; omega)
        have hTA := textE_at hs hhas.out
        have e1 := tot_take_succ l k s hs
        have q1 := tot_take_le l HM.out.1 (k+1)
        have hn : (n : Int) = tot (l.take k) := by rw [← textB_length hhas.out (HM.out.1.take k), hown.1]
        have hn2 : (n : Int) + s.len ≤ 1099511627776 := by omega
        have HTB := Lib.hid (@textB_snoc srcs l k s hs)
        have HHT := Lib.hid (@has_take srcs l k s hs hhas.out)
        obtain ⟨o1, o2, o3, o4, o5⟩ := HM.out.1.at_ hs
        obtain ⟨b, off, rfl, hb', h0, h1, h2⟩ := HR1.out.below hb (by omega) k s hs
        obtain ⟨src, at_, slen⟩ := s
        simp only at *
        obtain ⟨σ, rfl⟩ := Int.eq_ofNat_of_zero_le o1
        obtain ⟨α, rfl⟩ := Int.eq_ofNat_of_zero_le o3
        obtain ⟨μ, rfl⟩ := Int.eq_ofNat_of_zero_le (show 0 ≤ slen by omega)
        have HTA := Lib.hid hTA
        clear hTA e1 q1 hn hs hb' hown hb
        by_cases hσ : ns ≤ σ
        · have hE : TextE srcs l = 6 := by
            rw [HTE.out, HTA.out, textE, if_pos (by have := HLS.out; simp only; omega)]
          have HE := Lib.hid hE
          clear hE
          go_wp2_with fail
          go_ret2
          refine ⟨⟨_, _, _, by rw [HE.out]; rfl, ?_⟩, HB1.out.trans ((HBel.out.alloc hsz _).mono (by have := HB1.out.size; have := HBB.out; omega))⟩
          rw [TextL_err (by rw [HE.out]; decide)]
          exact OwnB.nil _ _
        · obtain ⟨t, ht⟩ := get_some srcs σ (by have := HLS.out; omega)
          have hsrc : srcOf srcs ⟨σ, α, μ⟩ = t := by unfold srcOf; rw [Int.toNat_natCast, List.getD_eq_getElem?_getD, ht]; rfl
          obtain ⟨b2, off2, Ak, ck, rfl, hb2, c0, c1, c2, hrb⟩ := HRS1.out.below HBel.out (by have := HBB.out; omega) σ t ht
          have hTA2 := HTA.out
          rw [textE, if_neg (by have := HLS.out; simp only; omega), hsrc] at hTA2
          simp only at hTA2
          unfold maxLen at c2
          have hb2w : b2 < wr.heap.size := by have := HBB.out; omega
          by_cases hbd : (t.length : Int) < α ∨ (t.length : Int) - α < μ
          · have hE : TextE srcs l = 2 := by rw [HTE.out, hTA2, if_pos hbd]
            have HE := Lib.hid hE
            clear hE hTA2 hsrc ht hrb
            go_wp2_with fail
            all_goals
              go_ret2
              refine ⟨⟨_, _, _, by rw [HE.out]; rfl, ?_⟩, HB1.out.trans ((HBel.out.alloc hsz _).mono (by have := HB1.out.size; have := HBB.out; omega))⟩
              rw [TextL_err (by rw [HE.out]; decide)]
              exact OwnB.nil _ _
          · have d0 : α ≤ t.length := by omega
            have d1 : α + μ ≤ t.length := by omega
            have hHas : Has srcs ⟨σ, α, μ⟩ := by
              unfold Has; rw [hsrc]; have := HLS.out; simp only; omega
            obtain ⟨u, hu⟩ := get_some t 0 (by omega)
            obtain ⟨b3, off3, rfl, hb3, _⟩ := hrb 0 u hu
            have hP : pieceB srcs ⟨σ, α, μ⟩ = (t.drop α).take μ := by unfold pieceB; rw [hsrc]; rfl
            have hPl : ((t.drop α).take μ).length = μ := by simp; omega
            have HP := Lib.hid hP; have HPl := Lib.hid hPl; have HHas := Lib.hid hHas
            have HPI := Lib.hid ((hrb.piece α μ).more (B' := BB) (by have := HBB.out; omega))
            have hck : (ck = α) = False := by simp; omega
            clear hP hPl hHas hrb hu hTA2 hsrc ht hbd
            go_wp2_with (at_builtin; (refine wpList_append_own _ rfl _ _ 22 rfl BB 5 i0 _ 1 1 Try.underlying22 hi hz0 hz1 hz2 rfl (by decide) _ _ _ rfl (HO.out.alloc _).2 _ _ _ (bcells ((t.drop α).take μ)) rfl ?c0 ?c1 ?c2 ?c3 ?c4 ?c5 ?_))
            case c0 => rw [bcells, List.length_map, HPl.out]; omega
            case c1 => exact (HPI.out.alloc hsz _).cells
            case c2 => exact bcells_one _
            case c3 => unfold maxLen; omega
            case c4 => omega
            case c5 => simp; omega
            intro v' w2 hown' hgrow _
            obtain ⟨⟨A'', c'', hv, hown2⟩, hb2', _, hz3, hcl⟩ := appB_step HO.out HBel.out hsz ((Below.refl _ _).alloc (Nat.le_refl _) _) HPl.out hown' hgrow
            rw [hv]
            clear hcl hgrow hown' hv
            go_wp2
            go_roundw
            case rel => exact ⟨k+1, A'', n+μ, c'', by omega, by go_num, rfl, Lib.hid (HHT.out HHas.out), by rw [HTB.out, HP.out]; exact hown2, hb2'⟩
            case measure => simp [intOf]; omega
      · obtain rfl : k = len := by omega
        clear hlt
        have e2 : l.take k = l := by rw [List.take_of_length_le (Nat.le_of_eq H.out)]
        rw [e2] at hown hhas
        have hE : TextE srcs l = 0 := by rw [HTE.out, textE_all hhas.out]
        have HE := Lib.hid hE
        clear hE
        have hnb : n ≤ 140737488355328 := by
          have h1 := textB_length hhas.out HM.out.1
          have := hown.1
          omega
        have HOw := Lib.hid hown
        clear hown
        go_wp2_with fail
        refine (Copy_any A' n c _ (textB srcs l) HOw.out.1 HOw.out.rd hnb).mono ?_
        rintro e w9 ⟨⟨A9, m9, c9, rfl, hown9⟩, hb9⟩
        have HO9 := Lib.hid hown9
        have HB9 := Lib.hid (HB1.out.trans ((HBel.out.trans (hb9.mono hsz)).mono (by have := HB1.out.size; have := HBB.out; omega)))
        clear hown9 hb9
        go_wp2_with fail
        go_ret2
        refine ⟨⟨_, _, _, by rw [HE.out]; rfl, ?_⟩, HB9.out⟩
        rw [TextL_ok HE.out]
        exact HO9.out.mono (by have := HB1.out.size; have := HBB.out; omega)
  · have e1 := mayB_not hM
    have hTE : TextE srcs l = 1 := by unfold TextE; rw [if_neg hM]
    have hTL : TextL srcs l = [] := by unfold TextL; rw [if_neg (by rw [hTE]; decide)]
    have HTE := Lib.hid hTE
    have HTL := Lib.hid hTL
    clear hM hTE hTL
    go_enter Try.func17, Try.ntmps17
    go_wp2_with fail
    refine (refMay_any A len cap _ l H.out HR.out hm).mono ?_
    rintro e w1 ⟨rfl, hb1⟩
    go_wp2_with fail
    go_ret2
    refine ⟨⟨_, _, _, by rw [HTE.out]; rfl, ?_⟩, hb1⟩
    rw [HTL.out]
    exact OwnB.nil _ _

end Go.Proofs.Yteceephenfmdoaa.Sc
