/-
  That the law EolJoins returns true, of two texts of at most 1048576 bytes.
-/
import Derived.Test.YtnfipflodhnbhaaLawc
namespace Go.Proofs.Ytnfipflodhnbhaa
open Go.RowKit
/-- What stays readable through EolJoins. -/
structure Kj (w : World) (X Y C : Option Addr) (l m : List Int) : Prop where
  x : RdB w w.heap.size X l
  y : RdB w w.heap.size Y m
  c : RdB w w.heap.size C (l ++ m)
theorem Kj.up {w w' : World} {X Y C : Option Addr} {l m : List Int} (h : Kj w X Y C l m) (hb : Below w.heap.size w w') : Kj w' X Y C l m := ⟨h.x.up hb, h.y.up hb, h.c.up hb⟩
theorem Byt.append {l m : List Int} (h : Byt l) (h' : Byt m) : Byt (l ++ m) := fun n hn => by
  rcases List.mem_append.1 hn with hn | hn
  · exact h n hn
  · exact h' n hn
/-- The list that the law makes, up to the j-th place of the second text. -/
def wantL (l m : List Int) (j : Nat) : List Int := endsI l ++ ((endsI m).take j).map (fun j => (l.length : Int) + j)
theorem wantL_zero (l m : List Int) : wantL l m 0 = endsI l := by simp [wantL]
theorem wantL_full (l m : List Int) : wantL l m (cnt m) = endsI (l ++ m) := by
  rw [wantL, List.take_of_length_le (Nat.le_of_eq (endsI_len m)), endsI_append]
theorem wantI (l m : List Int) (k : Nat) (x : Int) (h : (endsI m)[k]? = some x) : wantL l m (k+1) = wantL l m k ++ [(l.length : Int) + x] := by
  unfold wantL
  rw [take_snoc _ k x h, List.map_append, List.append_assoc]; rfl
theorem endsI_bd {l : List Int} {k : Nat} {x : Int} (h : (endsI l)[k]? = some x) : 0 ≤ x ∧ x < l.length := by
  have hm := List.mem_of_getElem? h
  rw [endsI, List.mem_map] at hm
  obtain ⟨i, hi, rfl⟩ := hm
  rw [ends, List.mem_filter, List.mem_range] at hi
  omega
set_option maxRecDepth 20000 in
set_option maxHeartbeats 1000000 in
theorem joins_walk (X : Option Addr) (n cx : Nat) (Y : Option Addr) (k cy : Nat) (w : World) (l m : List Int) (hlen : l.length = n) (hB : Byt l) (hr : RdB w w.heap.size X l) (hn : n ≤ 1048576)
    (hlen2 : m.length = k) (hB2 : Byt m) (hr2 : RdB w w.heap.size Y m) (hk : k ≤ 1048576) (hnone : Y = none → k = 0 ∧ cy = 0) :
    Calls Try.prog 6 #[.slice X n cx, .slice Y k cy] w fun e w' => e = .returned (.bool true) ∧ Below w.heap.size w w' := by
  obtain ⟨i0, hi, hz0, hz1, hz2⟩ := info_parts info5
  obtain ⟨i1, ji, jz0, jz1, jz2⟩ := info_parts info3
  have hcl := cnt_le l
  rw [hlen] at hcl
  have hcl2 := cnt_le m
  rw [hlen2] at hcl2
  have hca : cnt (l ++ m) = cnt l + cnt m := cnt_append l m
  have H := Lib.hid hlen; have HB := Lib.hid hB; have HR := Lib.hid hr
  have H2 := Lib.hid hlen2; have HB2 := Lib.hid hB2; have HR2 := Lib.hid hr2; have HN := Lib.hid hnone; have HCA := Lib.hid hca
  clear hlen hB hr hlen2 hB2 hr2 hnone hca
  go_enter Try.func6, Try.ntmps6
  go_wp2_with fail
  refine (Copy_any X n cx _ l H.out HR.out (by omega)).mono ?_
  rintro e w1 ⟨⟨A1, c1, rfl, hown⟩, hb⟩
  have HO1 := Lib.hid hown
  have HB1 := Lib.hid hb
  have HX1 := Lib.hid (HR.out.up hb)
  have HY1 := Lib.hid (HR2.out.up hb)
  have hsz : w.heap.size ≤ w1.heap.size := hb.size
  clear hown hb
  go_wp2_with (at_builtin; refine wpList_append_any rfl _ _ 22 rfl w.heap.size 5 i0 _ 1 1 Try.underlying22 hi hz0 hz1 hz2 rfl (by decide) _ _ _ rfl HO1.out.2 Y k cy (bcells m) rfl HN.out (by rw [bcells, List.length_map, H2.out, Nat.mul_one]) HY1.out.cells' (bcells_one _) (by unfold maxLen; omega) (by omega) (by omega) ?_)
  intro v' w2 hown' hgrow
  obtain ⟨⟨A2, c2, hv, hown2⟩, hb2, hb3, _, _⟩ := appB_step HO1.out HB1.out hsz (Below.refl _ _) H2.out hown' hgrow
  have HK2 := Lib.hid (Kj.mk (HR.out.up hb2) (HR2.out.up hb2) hown2.rd)
  have HBa := Lib.hid hb2
  have hc2 := hown2.cap
  unfold maxLen at hc2
  obtain ⟨hc2a, hc2b⟩ := hc2
  rw [hv]
  clear hown' hgrow hv hown2 hb2 hb3 HO1 HB1 HX1 HY1
  go_wp2_with fail
  refine (awake_any _).mono ?_
  rintro e w3 ⟨rfl, hb⟩
  have HK3 := Lib.hid (HK2.out.up hb)
  have HBb := Lib.hid (below_up HBa.out hb)
  clear hb HK2 HBa
  go_wp2_with fail
  refine (Count_any A2 (n + k) c2 _ (l ++ m) (by rw [List.length_append, H.out, H2.out]) (HB.out.append HB2.out) HK3.out.c).mono ?_
  rintro e w4 ⟨rfl, hb⟩
  rw [HCA.out]
  have HK4 := Lib.hid (HK3.out.up hb)
  have HBc := Lib.hid (below_up HBb.out hb)
  clear hb HK3 HBb
  go_wp2_with fail
  refine (Count_any X n cx _ l H.out HB.out HK4.out.x).mono ?_
  rintro e w5 ⟨rfl, hb⟩
  have HK5 := Lib.hid (HK4.out.up hb)
  have HBd := Lib.hid (below_up HBc.out hb)
  clear hb HK4 HBc
  go_wp2_with fail
  refine (Count_any Y k cy _ m H2.out HB2.out HK5.out.y).mono ?_
  rintro e w6 ⟨rfl, hb⟩
  have HK6 := Lib.hid (HK5.out.up hb)
  have HBe := Lib.hid (below_up HBd.out hb)
  clear hb HK5 HBd
  have hw1 : IntKind.i64.wrap ((cnt l : Int) + (cnt m : Int)) = (cnt l : Int) + (cnt m : Int) := IntWalk.i64_in _ (by omega)
  go_wp2_with fail
  refine (Ends_any X n cx _ l H.out HK6.out.x (by omega)).mono ?_
  rintro e w7 ⟨⟨Ea, ca, rfl, hown⟩, hb⟩
  have HEa := Lib.hid hown.rd
  have HNa := Lib.hid (fun h => OwnI.none hown h)
  have HK7 := Lib.hid (HK6.out.up hb)
  have HBf := Lib.hid (below_up HBe.out hb)
  clear hown hb HK6 HBe
  go_wp2_with fail
  refine (Ends_any Y k cy _ m H2.out HK7.out.y (by omega)).mono ?_
  rintro e w8 ⟨⟨Eb, cb, rfl, hown⟩, hb⟩
  have HEb := Lib.hid hown.rd
  have HEa8 := Lib.hid (HEa.out.up hb)
  have HK8 := Lib.hid (HK7.out.up hb)
  have HBg := Lib.hid (below_up HBf.out hb)
  clear hown hb HK7 HBf HEa
  go_wp2_with (at_builtin; refine wpList_append_any rfl _ _ 33 rfl w8.heap.size 3 i1 _ 1 8 Try.underlying33 ji jz0 jz1 jz2 rfl (by decide) _ _ _ rfl (OwnI.nil w8 w8.heap.size).2 Ea (cnt l) ca (icells (endsI l)) rfl HNa.out (by rw [icells, List.length_map, endsI_len, Nat.mul_one]) HEa8.out.cells' (icells_one _) (by unfold maxLen; omega) (by omega) (by omega) ?_)
  intro v' w9 hown' hgrow
  have hown'' : w9.ownsRow w8.heap.size 3 1 v' (0 + cnt l) (icells [] ++ icells (endsI l)) := by rw [Nat.zero_add]; exact hown'
  obtain ⟨⟨A9, c9, hv, hown9⟩, hb9, _, _, _⟩ := appI_step (w := w8) (OwnI.nil w8 w8.heap.size) (Below.refl _ _) (Nat.le_refl _) (Below.refl _ _) (endsI_len l) hown'' hgrow
  rw [Nat.zero_add, List.nil_append] at hown9
  rw [Nat.zero_add] at hv
  have HO9 := Lib.hid hown9
  have HB9 := Lib.hid hb9
  rw [hv]
  clear hown' hown'' hgrow hv hown9 hb9
  go_wp2_with fail
  generalize hBB : w8.heap.size = BB at *
  have HBB := Lib.hid hBB; clear hBB
  go_loopw [8, 9] (fun v i wr => ∃ j q A' c, j ≤ cnt m ∧ q = cnt l + j ∧ i = .int .i64 j ∧ v = .slice A' q c ∧ OwnI wr BB A' q c (wantL l m j) ∧ Below BB w8 wr) (fun _ i _ => cnt m - (intOf i).toNat)
  case atStart => exact ⟨0, _, _, _, Nat.zero_le _, rfl, rfl, rfl, by rw [wantL_zero]; exact HO9.out, HB9.out⟩
  case round =>
    obtain ⟨j, q, A', c, hj, hq, rfl, rfl, hown, hb⟩ := hrel
    have HO := Lib.hid hown
    have HBel := Lib.hid hb
    by_cases hlt : j < cnt m
    · obtain ⟨x, hx⟩ := get_some (endsI m) j (by rw [endsI_len]; exact hlt)
      have hx2 := endsI_bd hx
      rw [H2.out] at hx2
      obtain ⟨hx2, hx3⟩ := hx2
      have HEq : RdI w8 BB Eb (endsI m) := HBB.out ▸ HEb.out
      obtain ⟨b2, off2, rfl, hb2, c0⟩ := HEq.below hb (Nat.le_refl _) j x hx
      have hsz : BB ≤ wr.heap.size := by have := hb.size; have := HBB.out; omega
      have HT := Lib.hid (wantI l m j x hx)
      have HLn := Lib.hid H.out
      have hqb : q ≤ 2097152 := by omega
      have HQ := Lib.hid hq
      have hw2 : IntKind.i64.wrap ((n : Int) + x) = (n : Int) + x := IntWalk.i64_in _ (by omega)
      clear hx hown hb HEq hq
      go_wp2_with (at_builtin; refine wpList_append_own _ rfl _ _ 33 rfl BB 3 i1 _ 1 8 Try.underlying33 ji jz0 jz1 jz2 rfl (by decide) _ _ _ rfl (HO.out.alloc _).2 ⟨wr.heap.size, 0, none⟩ 1 1 (icells [(n : Int) + x]) rfl rfl (newi_one _ _ _ rfl) (icells_one _) (by unfold maxLen; omega) (by omega) (by simp; omega) ?_)
      intro v' wz hown' hgrow _
      obtain ⟨⟨A'', c'', hv, hown2⟩, hb3, hst, hz3, hcl⟩ := appI_step HO.out HBel.out hsz ((Below.refl _ _).alloc (Nat.le_refl _) _) (m := 1) (K := [(n : Int) + x]) rfl hown' hgrow
      rw [hv]
      clear hcl hgrow hown' hv
      go_wp2_with fail
      go_roundw
      case rel => exact ⟨j+1, q+1, A'', c'', by omega, by have := HQ.out; omega, by go_num, rfl, by rw [HT.out, HLn.out]; exact hown2, hb3⟩
      case measure => simp [intOf]; omega
    · obtain rfl : j = cnt m := by omega
      clear hlt
      have e2 := wantL_full l m
      rw [e2] at hown
      subst hq
      have HW := Lib.hid hown.rd
      have HKr := Lib.hid (HK8.out.up (HBB.out ▸ HBel.out))
      have HBh := Lib.hid (below_up HBg.out (HBB.out ▸ HBel.out))
      clear hown e2
      go_wp2_with fail
      refine (Ends_any A2 (n + k) c2 _ (l ++ m) (by rw [List.length_append, H.out, H2.out]) HKr.out.c (by omega)).mono ?_
      rintro e wx ⟨⟨Ez, cz, rfl, hown⟩, hb⟩
      have HZ := Lib.hid hown.rd
      have HW2 := Lib.hid (HW.out.up hb)
      have HBi := Lib.hid (below_up HBh.out hb)
      clear hown hb
      go_wp2_with fail
      refine (Ints_true Ez _ cz A' _ c _ (endsI (l ++ m)) (endsI_len _) HZ.out (by have := HCA.out; omega) HCA.out.symm HW2.out).mono ?_
      rintro e wy ⟨rfl, hb⟩
      have HBj := Lib.hid (below_up HBi.out hb)
      clear hb
      go_wp2_with fail
      go_ret
      exact ⟨rfl, HBj.out⟩
end Go.Proofs.Ytnfipflodhnbhaa
