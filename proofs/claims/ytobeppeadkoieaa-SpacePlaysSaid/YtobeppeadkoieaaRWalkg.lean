/-
  What the reference's put answers.
-/
import Derived.Test.YtobeppeadkoieaaRNums
import Derived.BigRegion
import Derived.Deep.CutBlock
import Derived.WalkMore
import Derived.Deep.LoopGhost
import Derived.Deep.RegionHeld3
import Derived.Deep.AppendLies
import Derived.Deep.DeepCutAuto
import Derived.Test.YtobeppeadkoieaaRWalkb
namespace Go.Proofs.Ytobeppeadkoieaa.Rg
open Go.RowKit
theorem snoc_cases {α : Type} (l : List α) : l = [] ∨ ∃ l' x, l = l' ++ [x] := by
  rcases List.eq_nil_or_concat l with rfl | ⟨l', x, rfl⟩
  · exact .inl rfl
  · exact .inr ⟨l', x, by rw [List.concat_eq_append]⟩
theorem mstep_nil (s : R) : mstep [] s = [s] := rfl
theorem mstep_yes (L : List R) (t s : R) (h : s.1 ≤ t.2) : mstep (L ++ [t]) s = L ++ [(t.1, max t.2 s.2)] := by
  unfold mstep
  simp [h]
theorem mstep_no (L : List R) (t s : R) (h : ¬ s.1 ≤ t.2) : mstep (L ++ [t]) s = L ++ [t] ++ [s] := by
  unfold mstep
  simp [h]
theorem drop_cons {α : Type} {l : List α} {k : Nat} {s : α} (h : l[k]? = some s) : l.drop k = s :: l.drop (k+1) := by
  obtain ⟨hk, e⟩ := List.getElem?_eq_some_iff.1 h
  rw [← e, ← List.drop_eq_getElem_cons hk]
theorem putL_neg {l : List Int} {x : Int} (h : x < 0) : putL l x = l := by unfold putL; rw [if_pos h]
theorem putL_in {l : List Int} {x : Int} (h : x ∈ l) : putL l x = l := by
  unfold putL
  simp [h]
theorem putL_new {l : List Int} {x : Int} (h0 : ¬ x < 0) (h : x ∉ l) : putL l x = ins x l := by
  unfold putL; rw [if_neg h0, if_neg h]
theorem nin_step {l : List Int} {k : Nat} {x y : Int} (hy : l[k]? = some y) (h : x ∉ l.take k) (hne : ¬ y = x) : x ∉ l.take (k+1) := by
  rw [take_snoc l k y hy]
  intro hh
  rcases List.mem_append.1 hh with hh | hh
  · exact h hh
  · simp at hh; exact hne hh.symm
/-- A slice that reads as numbers, its length and its room told. -/
def RdN (w : World) (A : Option Addr) (n c : Nat) (l : List Int) : Prop := l.length = n ∧ RdI w w.heap.size A l ∧ 0 ≤ c
set_option maxHeartbeats 800000 in
theorem put_any (A : Option Addr) (len cap : Nat) (x : Int) (w : World) (l : List Int) (hlen : l.length = len) (hr : RdI w w.heap.size A l) (hm : len ≤ 10000000) :
    Calls Try.prog 42 #[.slice A len cap, .int .i64 x] w fun e w' => (∃ A' n c, e = .returned (.slice A' n c) ∧ RdN w' A' n c (putL l x)) ∧ Below w.heap.size w w' := by
  obtain ⟨i0, hi, hz0, hz1, hz2⟩ := info_parts info3
  have H := Lib.hid hlen; have HR := Lib.hid hr
  clear hlen hr
  by_cases hx : x < 0
  · have HP : Hid (putL l x = l) := Lib.hid (putL_neg hx)
    go_enter Try.func42, Try.ntmps42
    go_wp2_with fail
    go_ret
    exact ⟨⟨_, _, _, rfl, by rw [HP.out]; exact ⟨H.out, HR.out, Nat.zero_le _⟩⟩, Below.refl _ _⟩
  go_enter Try.func42, Try.ntmps42
  go_wp2_with fail
  generalize hBB : w.heap.size = BB at *
  have HB := Lib.hid hBB; clear hBB
  go_loopw [5, 6, 7] (fun vo vd vi wr => ∃ (k : Nat) (d : Bool) (m : Nat) (B : Option Addr) (c : Nat) (o : List Int), k ≤ len ∧ m ≤ 2 * k ∧ vi = .int .i64 k ∧ vd = .bool d ∧ vo = .slice B m c ∧ Hid (OwnI wr BB B m c o) ∧ Hid (x ∉ l.take k) ∧ Hid (o ++ (if d then l.drop k else ins x (l.drop k)) = ins x l) ∧ Below BB w wr) (fun _ _ i _ => len - (intOf i).toNat)
  case atStart => exact ⟨0, false, 0, _, _, [], Nat.zero_le _, by omega, rfl, rfl, rfl, Lib.hid (OwnI.nil _ _), Lib.hid (by simp), Lib.hid (by simp), Below.refl _ _⟩
  case round =>
    obtain ⟨k, d, m, B, c, o, hk, hmk, rfl, rfl, rfl, RO, RN, RE, hbl⟩ := hrel
    have hsz : BB ≤ wr.heap.size := by have := hbl.size; have := HB.out; omega
    by_cases hlt : k < len
    · obtain ⟨y, hy⟩ := get_some l k (by have := H.out; omega)
      obtain ⟨b2, off2, rfl, hb2, c0⟩ := HR.out.below hbl (Nat.le_refl _) k y hy
      have HBel := Lib.hid hbl
      by_cases hxy : y = x
      · have HP : Hid (putL l x = l) := Lib.hid (putL_in (by rw [← hxy]; exact List.mem_of_getElem? hy))
        have f1 : (y == x) = true := by simpa using hxy
        clear hy hbl hxy
        go_wp2_with fail
        go_ret
        exact ⟨⟨_, _, _, rfl, by rw [HP.out]; exact ⟨H.out, (HR.out.below HBel.out (Nat.le_refl _)).more hsz, Nat.zero_le _⟩⟩, by obtain rfl := HB.out; exact HBel.out⟩
      · have RN2 := Lib.hid (nin_step hy RN.out hxy)
        have hd := drop_cons hy
        have f1 : (y == x) = false := by simpa using hxy
        cases d with
        | true =>
          have RE2 : Hid (o ++ [y] ++ (if true = true then l.drop (k+1) else ins x (l.drop (k+1))) = ins x l) := Lib.hid (by have := RE.out; rw [hd] at this; simpa using this)
          clear hy hbl hd hxy
          by_cases hgt : x < y
          · go_wp2_with (at_builtin; refine wpList_append_own _ rfl (.tmp 38) (.tmp 43) 30 rfl BB 3 i0 _ 1 8 Try.underlying30 hi hz0 hz1 hz2 rfl (by decide) _ _ _ rfl (RO.out.alloc _).2 ⟨wr.heap.size, 0, none⟩ 1 1 (icells [y]) rfl rfl (newi_one _ _ _ rfl) (icells_one _) (by unfold maxLen; omega) (by omega) (by simp; omega) ?_)
            intro v' w1 hown' hgrow _
            obtain ⟨⟨A'', c'', hv, hown2⟩, hb3, _, _, _⟩ := appI_step RO.out HBel.out hsz ((Below.refl _ _).alloc (Nat.le_refl _) _) (m := 1) (K := [y]) rfl hown' hgrow
            have HO2 := Lib.hid hown2
            rw [hv]
            clear hgrow hown' hv hown2
            go_wp2_with fail
            go_roundw
            case rel => exact ⟨k+1, true, m+1, A'', c'', _, by omega, by omega, by go_num, rfl, rfl, HO2, RN2, RE2, hb3⟩
            case measure => simp [intOf]; omega
          · go_wp2_with (at_builtin; refine wpList_append_own _ rfl (.tmp 38) (.tmp 43) 30 rfl BB 3 i0 _ 1 8 Try.underlying30 hi hz0 hz1 hz2 rfl (by decide) _ _ _ rfl (RO.out.alloc _).2 ⟨wr.heap.size, 0, none⟩ 1 1 (icells [y]) rfl rfl (newi_one _ _ _ rfl) (icells_one _) (by unfold maxLen; omega) (by omega) (by simp; omega) ?_)
            intro v' w1 hown' hgrow _
            obtain ⟨⟨A'', c'', hv, hown2⟩, hb3, _, _, _⟩ := appI_step RO.out HBel.out hsz ((Below.refl _ _).alloc (Nat.le_refl _) _) (m := 1) (K := [y]) rfl hown' hgrow
            have HO2 := Lib.hid hown2
            rw [hv]
            clear hgrow hown' hv hown2
            go_wp2_with fail
            go_roundw
            case rel => exact ⟨k+1, true, m+1, A'', c'', _, by omega, by omega, by go_num, rfl, rfl, HO2, RN2, RE2, hb3⟩
            case measure => simp [intOf]; omega
        | false =>
          by_cases hgt : x < y
          · have RE2 : Hid (o ++ [x] ++ [y] ++ (if true = true then l.drop (k+1) else ins x (l.drop (k+1))) = ins x l) := Lib.hid (by have := RE.out; rw [hd] at this; simpa [ins, hgt] using this)
            clear hy hbl hd hxy
            go_wp2_with (at_builtin; refine wpList_append_own _ rfl (.tmp 34) (.tmp 36) 30 rfl BB 3 i0 _ 1 8 Try.underlying30 hi hz0 hz1 hz2 rfl (by decide) _ _ _ rfl (RO.out.alloc _).2 ⟨wr.heap.size, 0, none⟩ 1 1 (icells [x]) rfl rfl (newi_one _ _ _ rfl) (icells_one _) (by unfold maxLen; omega) (by omega) (by simp; omega) ?_)
            intro v' w1 hown' hgrow _
            obtain ⟨⟨A'', c'', hv, hown2⟩, hb3, _, _, _⟩ := appI_step RO.out HBel.out hsz ((Below.refl _ _).alloc (Nat.le_refl _) _) (m := 1) (K := [x]) rfl hown' hgrow
            have HO2 := Lib.hid hown2; have HB2 := Lib.hid hb3
            have hsz2 : BB ≤ w1.heap.size := by have := hb3.size; have := HB.out; omega
            have c1 := (hb3.cell (p := ⟨b2, off2 + k, none⟩) hb2).trans ((HBel.out.cell (p := ⟨b2, off2 + k, none⟩) hb2).symm.trans c0)
            rw [hv]
            clear hgrow hown' hv hown2 hb3
            go_wp2_with (at_builtin; refine wpList_append_own _ rfl (.tmp 38) (.tmp 43) 30 rfl BB 3 i0 _ 1 8 Try.underlying30 hi hz0 hz1 hz2 rfl (by decide) _ _ _ rfl (HO2.out.alloc _).2 ⟨w1.heap.size, 0, none⟩ 1 1 (icells [y]) rfl rfl (newi_one _ _ _ rfl) (icells_one _) (by unfold maxLen; omega) (by omega) (by simp; omega) ?_)
            intro v' w3 hown' hgrow _
            obtain ⟨⟨A3, c3, hv, hown2⟩, hb3, _, _, _⟩ := appI_step HO2.out HB2.out hsz2 ((Below.refl _ _).alloc (Nat.le_refl _) _) (m := 1) (K := [y]) rfl hown' hgrow
            have HO3 := Lib.hid hown2
            rw [hv]
            clear hgrow hown' hv hown2
            go_wp2_with fail
            go_roundw
            case rel => exact ⟨k+1, true, m+1+1, A3, c3, _, by omega, by omega, by go_num, rfl, rfl, HO3, RN2, RE2, hb3⟩
            case measure => simp [intOf]; omega
          · have RE2 : Hid (o ++ [y] ++ (if false = true then l.drop (k+1) else ins x (l.drop (k+1))) = ins x l) := Lib.hid (by have := RE.out; rw [hd] at this; simpa [ins, hgt] using this)
            clear hy hbl hd hxy
            go_wp2_with (at_builtin; refine wpList_append_own _ rfl (.tmp 38) (.tmp 43) 30 rfl BB 3 i0 _ 1 8 Try.underlying30 hi hz0 hz1 hz2 rfl (by decide) _ _ _ rfl (RO.out.alloc _).2 ⟨wr.heap.size, 0, none⟩ 1 1 (icells [y]) rfl rfl (newi_one _ _ _ rfl) (icells_one _) (by unfold maxLen; omega) (by omega) (by simp; omega) ?_)
            intro v' w1 hown' hgrow _
            obtain ⟨⟨A'', c'', hv, hown2⟩, hb3, _, _, _⟩ := appI_step RO.out HBel.out hsz ((Below.refl _ _).alloc (Nat.le_refl _) _) (m := 1) (K := [y]) rfl hown' hgrow
            have HO2 := Lib.hid hown2
            rw [hv]
            clear hgrow hown' hv hown2
            go_wp2_with fail
            go_roundw
            case rel => exact ⟨k+1, false, m+1, A'', c'', _, by omega, by omega, by go_num, rfl, rfl, HO2, RN2, RE2, hb3⟩
            case measure => simp [intOf]; omega
    · obtain rfl : k = len := by omega
      have hP : putL l x = ins x l := putL_new (by omega) (by have := RN.out; rwa [List.take_of_length_le (Nat.le_of_eq H.out)] at this)
      have hD : l.drop k = [] := List.drop_of_length_le (Nat.le_of_eq H.out)
      have HBel := Lib.hid hbl
      cases d with
      | true =>
        have HP : Hid (putL l x = o) := Lib.hid (by have := RE.out; rw [hD] at this; rw [hP]; simpa using this.symm)
        clear hP hD hbl hlt
        go_wp2_with fail
        go_ret
        obtain rfl := HB.out
        exact ⟨⟨_, _, _, rfl, by rw [HP.out]; exact ⟨RO.out.1, RO.out.rd, Nat.zero_le _⟩⟩, HBel.out⟩
      | false =>
        have HP : Hid (putL l x = o ++ [x]) := Lib.hid (by have := RE.out; rw [hD] at this; rw [hP]; simpa [ins] using this.symm)
        clear hP hD hbl hlt
        go_wp2_with (at_builtin; refine wpList_append_own _ rfl (.tmp 47) (.tmp 49) 30 rfl BB 3 i0 _ 1 8 Try.underlying30 hi hz0 hz1 hz2 rfl (by decide) _ _ _ rfl (RO.out.alloc _).2 ⟨wr.heap.size, 0, none⟩ 1 1 (icells [x]) rfl rfl (newi_one _ _ _ rfl) (icells_one _) (by unfold maxLen; omega) (by omega) (by simp; omega) ?_)
        intro v' w1 hown' hgrow _
        obtain ⟨⟨A'', c'', hv, hown2⟩, hb3, _, _, _⟩ := appI_step RO.out HBel.out hsz ((Below.refl _ _).alloc (Nat.le_refl _) _) (m := 1) (K := [x]) rfl hown' hgrow
        have HO2 := Lib.hid hown2; have HB2 := Lib.hid hb3
        rw [hv]
        clear hgrow hown' hv hown2 hb3
        go_wp2_with fail
        go_ret
        obtain rfl := HB.out
        exact ⟨⟨_, _, _, rfl, by rw [HP.out]; exact ⟨HO2.out.1, HO2.out.rd, Nat.zero_le _⟩⟩, HB2.out⟩
end Go.Proofs.Ytobeppeadkoieaa.Rg
