/-
  What the reference's First answers: the first bytes of a list that may be, and the others.
-/
import Derived.Test.YtlgablhlpcmcaaaRefa
import Derived.Test.YtlgablhlpcmcaaaBts
namespace Go.Proofs.Ytlgablhlpcmcaaa
open Go.RowKit
def fa (s : S) (n : Int) : List S := if 0 < min n s.len then [⟨s.src, s.at_, min n s.len⟩] else []
def fb (s : S) (n : Int) : List S := if min n s.len < s.len then [⟨s.src, s.at_ + min n s.len, s.len - min n s.len⟩] else []
def firstA : List S → Int → List S
  | [], _ => []
  | s :: l, n => fa s n ++ firstA l (n - min n s.len)
def firstB : List S → Int → List S
  | [], _ => []
  | s :: l, n => fb s n ++ firstB l (n - min n s.len)
/-- What is left of a number behind a list. -/
def rest : List S → Int → Int
  | [], n => n
  | s :: l, n => rest l (n - min n s.len)
theorem rest_snoc (l : List S) (s : S) (n : Int) : rest (l ++ [s]) n = rest l n - min (rest l n) s.len := by
  induction l generalizing n with
  | nil => rfl
  | cons a l ih => simp only [List.cons_append, rest, ih]
theorem firstA_snoc (l : List S) (s : S) (n : Int) : firstA (l ++ [s]) n = firstA l n ++ fa s (rest l n) := by
  induction l generalizing n with
  | nil => simp [firstA, rest]
  | cons a l ih => simp only [List.cons_append, firstA, rest, ih, List.append_assoc]
theorem firstB_snoc (l : List S) (s : S) (n : Int) : firstB (l ++ [s]) n = firstB l n ++ fb s (rest l n) := by
  induction l generalizing n with
  | nil => simp [firstB, rest]
  | cons a l ih => simp only [List.cons_append, firstB, rest, ih, List.append_assoc]
theorem rest_le (l : List S) (h : Ok l) (n : Int) (hn : 0 ≤ n) : 0 ≤ rest l n ∧ rest l n ≤ n := by
  induction l generalizing n with
  | nil => exact ⟨hn, Int.le_refl _⟩
  | cons a l ih =>
    have ha := h a (by simp)
    unfold okS at ha
    have := ih h.tail (n - min n a.len) (by omega)
    simp only [rest]
    omega
theorem fa_len (s : S) (n : Int) : (fa s n).length ≤ 1 := by unfold fa; split <;> simp
theorem fb_len (s : S) (n : Int) : (fb s n).length ≤ 1 := by unfold fb; split <;> simp
theorem firstA_len (l : List S) (n : Int) : (firstA l n).length ≤ l.length := by
  induction l generalizing n with
  | nil => simp [firstA]
  | cons a l ih => have := ih (n - min n a.len); have := fa_len a n; simp only [firstA, List.length_append, List.length_cons]; omega
theorem firstB_len (l : List S) (n : Int) : (firstB l n).length ≤ l.length := by
  induction l generalizing n with
  | nil => simp [firstB]
  | cons a l ih => have := ih (n - min n a.len); have := fb_len a n; simp only [firstB, List.length_append, List.length_cons]; omega

set_option maxHeartbeats 800000 in
theorem First_any (A : Option Addr) (len cap : Nat) (n : Int) (w : World) (l : List S) (hlen : l.length = len) (hr : Rd w w.heap.size A l) (hL : Ok l) (ht : tot l ≤ 1099511627776) (hn0 : 0 ≤ n) (hn1 : n ≤ 1099511627776) :
    Calls Try.prog 27 #[.slice A len cap, .int .i64 n] w fun e w' => (∃ A' m c A2 m2 c2, e = .returned (.tuple #[.slice A' m c, .slice A2 m2 c2]) ∧ Own w' w.heap.size A' m c (firstA l n) ∧ Own w' w.heap.size A2 m2 c2 (firstB l n)) ∧ Below w.heap.size w w' := by
  have hm := len_le_tot l hL
  rw [hlen] at hm
  obtain ⟨i0, hi, hz0, hz1, hz2⟩ := info_parts info31
  have HR := Lib.hid hr; have HL := Lib.hid hL
  clear hr hL
  go_enter Try.func27, Try.ntmps27
  go_wp2_with fail
  have H := Lib.hid hlen; clear hlen
  generalize hBB : w.heap.size = BB at *
  have HB := Lib.hid hBB; clear hBB
  go_loopw [1, 6, 7, 8] (fun x va vb i wr => ∃ k A' m c A2 m2 c2, k ≤ len ∧ x = .int .i64 (rest (l.take k) n) ∧ i = .int .i64 k ∧ va = .slice A' m c ∧ vb = .slice A2 m2 c2 ∧ Own wr BB A' m c (firstA (l.take k) n) ∧ Own wr BB A2 m2 c2 (firstB (l.take k) n) ∧ Apart A' A2 ∧ Below BB w wr) (fun _ _ _ i _ => len - (intOf i).toNat)
  case atStart => exact ⟨0, _, _, _, _, _, _, Nat.zero_le _, rfl, rfl, rfl, rfl, Own.nil _ _, Own.nil _ _, Apart.nil_left _, Below.refl _ _⟩
  case round =>
    obtain ⟨k, A', m, c, A2, m2, c2, hk, rfl, rfl, rfl, rfl, hown, hown2, hap, hb⟩ := hrel
    have HO := Lib.hid hown; have HO2 := Lib.hid hown2; have HA := Lib.hid hap
    have HBel := Lib.hid hb
    by_cases hlt : k < len
    · obtain ⟨s, hs⟩ := get_some l k (by have := H.out; omega)
      obtain ⟨b2, off2, rfl, hb2, c0, c1, c2'⟩ := HR.out.below hb (Nat.le_refl _) k s hs
      have hsz : BB ≤ wr.heap.size := by have := hb.size; have := HB.out; omega
      have e1 := take_snoc l k s hs
      obtain ⟨o1, o2, o3, o4, o5⟩ := HL.out.at_ hs
      have hx := rest_le (l.take k) (HL.out.take k) n hn0
      have h4 : (l.take k).length ≤ k := List.length_take_le _ _
      have hma : m ≤ k := by have := firstA_len (l.take k) n; have := hown.1; omega
      have hmb : m2 ≤ k := by have := firstB_len (l.take k) n; have := hown2.1; omega
      have FA : firstA (l.take (k+1)) n = firstA (l.take k) n ++ fa s (rest (l.take k) n) := by rw [e1, firstA_snoc]
      have FB : firstB (l.take (k+1)) n = firstB (l.take k) n ++ fb s (rest (l.take k) n) := by rw [e1, firstB_snoc]
      have FR : rest (l.take (k+1)) n = rest (l.take k) n - min (rest (l.take k) n) s.len := by rw [e1, rest_snoc]
      obtain ⟨x0, x1⟩ := hx
      generalize rest (l.take k) n = X at *
      have FA := Lib.hid FA; have FB := Lib.hid FB; have FR := Lib.hid FR
      clear e1 hs h4 hown hown2 hap hb
      rcases (show (X = 0 ∧ X < s.len) ∨ (0 < X ∧ X < s.len) ∨ s.len < X ∨ X = s.len by omega) with ⟨hX, d1⟩ | ⟨d2, d1⟩ | d1 | hX
      · have hmin : min X s.len = X := by omega
        have hFa : fa s X = [] := by unfold fa; rw [if_neg (by omega)]
        have hFb : fb s X = [⟨s.src, s.at_ + X, s.len - X⟩] := by unfold fb; rw [if_pos (by omega), hmin]
        have hFr : X - min X s.len = 0 := by omega
        have HFa := Lib.hid hFa; have HFb := Lib.hid hFb; have HFr := Lib.hid hFr
        have d2 : X ≤ 0 := by omega
        clear hFa hFb hX hmin hFr
        go_wp2_with (at_builtin; refine wpList_append_block rfl (.tmp 40) (.tmp 52) 22 rfl BB 31 i0 _ 3 24 Try.underlying22 hi hz0 hz1 hz2 rfl (by decide) _ _ _ rfl ((HO2.out.alloc _).alloc _).2 ⟨wr.heap.size + 1, 0, none⟩ 1 1 (cells [⟨s.src, s.at_ + X, s.len - X⟩]) rfl rfl (new_one _ ⟨s.src, s.at_ + X, s.len - X⟩ _ (by simp)) (cells_one_cell _) (by unfold maxLen; omega) (by omega) (by simp; omega) ?_)
        intro v' w1 hown' hgrow hbl
        obtain ⟨⟨A'', c'', hv, ho1, hap1⟩, ho2, hb3, hz3, hcl⟩ := app2_step HO2.out HO.out HA.out.symm HBel.out hsz (((Below.refl _ _).alloc (Nat.le_refl _) _).alloc (by simp) _) hown' hgrow (by simpa using hbl)
        rw [hv]
        clear hcl hgrow hown' hv hbl
        go_wp2_with fail
        go_roundw
        case rel => exact ⟨k+1, A', m, c, A'', m2+1, c'', by omega, by rw [FR.out, HFr.out], by go_num, rfl, rfl, by rw [FA.out, HFa.out, List.append_nil]; exact ho2, by rw [FB.out, HFb.out]; exact ho1, hap1.symm, hb3⟩
        case measure => simp [intOf]; omega
      · have hmin : min X s.len = X := by omega
        have hFa : fa s X = [⟨s.src, s.at_, X⟩] := by unfold fa; rw [if_pos (by omega), hmin]
        have hFb : fb s X = [⟨s.src, s.at_ + X, s.len - X⟩] := by unfold fb; rw [if_pos (by omega), hmin]
        have hFr : X - min X s.len = 0 := by omega
        have HFa := Lib.hid hFa; have HFb := Lib.hid hFb; have HFr := Lib.hid hFr
        clear hFa hFb hmin hFr
        go_wp2_with (at_builtin; refine wpList_append_block rfl (.tmp 27) (.tmp 34) 22 rfl BB 31 i0 _ 3 24 Try.underlying22 hi hz0 hz1 hz2 rfl (by decide) _ _ _ rfl ((HO.out.alloc _).alloc _).2 ⟨wr.heap.size + 1, 0, none⟩ 1 1 (cells [⟨s.src, s.at_, X⟩]) rfl rfl (new_one _ ⟨s.src, s.at_, X⟩ _ (by simp)) (cells_one_cell _) (by unfold maxLen; omega) (by omega) (by simp; omega) ?_)
        intro v' w1 hown' hgrow hbl
        obtain ⟨⟨A'', c'', hv, ho1, hap1⟩, ho2, hb3, hz3, hcl⟩ := app2_step HO.out HO2.out HA.out HBel.out hsz (((Below.refl _ _).alloc (Nat.le_refl _) _).alloc (by simp) _) hown' hgrow (by simpa using hbl)
        have g0 := (hcl wr.heap.size 0 (Nat.le_refl _) (by simp; omega)).trans (cell_new1 _ _ _ _ _)
        have g1 := (hcl wr.heap.size 1 (Nat.le_refl _) (by simp; omega)).trans (cell_new1 _ _ _ _ _)
        have g2 := (hcl wr.heap.size 2 (Nat.le_refl _) (by simp; omega)).trans (cell_new1 _ _ _ _ _)
        simp at g0 g1 g2
        have hz4 : BB ≤ w1.heap.size := by simp at hz3; omega
        rw [hv]
        have HO3 := Lib.hid ho1; have HO4 := Lib.hid ho2; have HA3 := Lib.hid hap1; have HB3 := Lib.hid hb3
        clear hcl hgrow hown' hv hbl hz3 ho1 ho2 hap1 hb3
        go_wp2_with (at_builtin; refine wpList_append_block rfl (.tmp 40) (.tmp 52) 22 rfl BB 31 i0 _ 3 24 Try.underlying22 hi hz0 hz1 hz2 rfl (by decide) _ _ _ rfl (HO4.out.alloc _).2 ⟨w1.heap.size, 0, none⟩ 1 1 (cells [⟨s.src, s.at_ + X, s.len - X⟩]) rfl rfl (new_one _ ⟨s.src, s.at_ + X, s.len - X⟩ _ rfl) (cells_one_cell _) (by unfold maxLen; omega) (by omega) (by simp; omega) ?_)
        intro v' w2 hown' hgrow hbl
        obtain ⟨⟨A4, c4, hv, ho1, hap1⟩, ho2, hb3, hz3, hcl⟩ := app2_step HO4.out HO3.out HA3.out.symm HB3.out hz4 ((Below.refl _ _).alloc (Nat.le_refl _) _) hown' hgrow (by simpa using hbl)
        rw [hv]
        clear hcl hgrow hown' hv hbl
        go_wp2_with fail
        go_roundw
        case rel => exact ⟨k+1, A'', m+1, c'', A4, m2+1, c4, by omega, by rw [FR.out, HFr.out], by go_num, rfl, rfl, by rw [FA.out, HFa.out]; exact ho2, by rw [FB.out, HFb.out]; exact ho1, hap1.symm, hb3⟩
        case measure => simp [intOf]; omega
      · have hmin : min X s.len = s.len := by omega
        have hFa : fa s X = [⟨s.src, s.at_, s.len⟩] := by unfold fa; rw [if_pos (by omega), hmin]
        have hFb : fb s X = [] := by unfold fb; rw [if_neg (by omega)]
        have hFr : X - min X s.len = X - s.len := by rw [hmin]
        have HFa := Lib.hid hFa; have HFb := Lib.hid hFb; have HFr := Lib.hid hFr
        clear hFa hFb hmin hFr
        go_wp2_with (at_builtin; refine wpList_append_block rfl (.tmp 27) (.tmp 34) 22 rfl BB 31 i0 _ 3 24 Try.underlying22 hi hz0 hz1 hz2 rfl (by decide) _ _ _ rfl ((HO.out.alloc _).alloc _).2 ⟨wr.heap.size + 1, 0, none⟩ 1 1 (cells [⟨s.src, s.at_, s.len⟩]) rfl rfl (new_one _ ⟨s.src, s.at_, s.len⟩ _ (by simp)) (cells_one_cell _) (by unfold maxLen; omega) (by omega) (by simp; omega) ?_)
        intro v' w1 hown' hgrow hbl
        obtain ⟨⟨A'', c'', hv, ho1, hap1⟩, ho2, hb3, hz3, hcl⟩ := app2_step HO.out HO2.out HA.out HBel.out hsz (((Below.refl _ _).alloc (Nat.le_refl _) _).alloc (by simp) _) hown' hgrow (by simpa using hbl)
        have g2 := (hcl wr.heap.size 2 (Nat.le_refl _) (by simp; omega)).trans (cell_new1 _ _ _ _ _)
        simp at g2
        rw [hv]
        clear hcl hgrow hown' hv hbl
        go_wp2_with fail
        go_roundw
        case rel => exact ⟨k+1, A'', m+1, c'', A2, m2, c2, by omega, by rw [FR.out, HFr.out], by go_num, rfl, rfl, by rw [FA.out, HFa.out]; exact ho1, by rw [FB.out, HFb.out, List.append_nil]; exact ho2, hap1, hb3⟩
        case measure => simp [intOf]; omega
      · subst hX
        have hmin : min s.len s.len = s.len := by omega
        have hFa : fa s s.len = [⟨s.src, s.at_, s.len⟩] := by unfold fa; rw [if_pos (by omega), hmin]
        have hFb : fb s s.len = [] := by unfold fb; rw [if_neg (by omega)]
        have hFr : s.len - min s.len s.len = 0 := by omega
        have HFa := Lib.hid hFa; have HFb := Lib.hid hFb; have HFr := Lib.hid hFr
        clear hFa hFb hmin hFr
        go_wp2_with (at_builtin; refine wpList_append_block rfl (.tmp 27) (.tmp 34) 22 rfl BB 31 i0 _ 3 24 Try.underlying22 hi hz0 hz1 hz2 rfl (by decide) _ _ _ rfl ((HO.out.alloc _).alloc _).2 ⟨wr.heap.size + 1, 0, none⟩ 1 1 (cells [⟨s.src, s.at_, s.len⟩]) rfl rfl (new_one _ ⟨s.src, s.at_, s.len⟩ _ (by simp)) (cells_one_cell _) (by unfold maxLen; omega) (by omega) (by simp; omega) ?_)
        intro v' w1 hown' hgrow hbl
        obtain ⟨⟨A'', c'', hv, ho1, hap1⟩, ho2, hb3, hz3, hcl⟩ := app2_step HO.out HO2.out HA.out HBel.out hsz (((Below.refl _ _).alloc (Nat.le_refl _) _).alloc (by simp) _) hown' hgrow (by simpa using hbl)
        have g2 := (hcl wr.heap.size 2 (Nat.le_refl _) (by simp; omega)).trans (cell_new1 _ _ _ _ _)
        simp at g2
        rw [hv]
        clear hcl hgrow hown' hv hbl
        go_wp2_with fail
        go_roundw
        case rel => exact ⟨k+1, A'', m+1, c'', A2, m2, c2, by omega, by rw [FR.out, HFr.out], by go_num, rfl, rfl, by rw [FA.out, HFa.out]; exact ho1, by rw [FB.out, HFb.out, List.append_nil]; exact ho2, hap1, hb3⟩
        case measure => simp [intOf]; omega
    · obtain rfl : k = len := by omega
      clear hlt
      have e2 : l.take k = l := by rw [List.take_of_length_le (Nat.le_of_eq H.out)]
      rw [e2] at hown hown2
      go_wp2_with fail
      go_ret2
      obtain rfl := HB.out
      exact ⟨⟨_, _, _, _, _, _, rfl, hown, hown2⟩, HBel.out⟩
end Go.Proofs.Ytlgablhlpcmcaaa
