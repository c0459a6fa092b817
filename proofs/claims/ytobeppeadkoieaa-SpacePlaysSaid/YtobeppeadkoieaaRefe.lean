/-
  What the reference's Listed, and the space's Used, Waiting and Top answer: the same of the same pages.
-/
import Derived.Test.YtobeppeadkoieaaRefd
import Derived.Test.YtobeppeadkoieaaRWalki
import Derived.Test.YtobeppeadkoieaaRWalkc
import Derived.Deep.RegionHeld3
import Derived.Deep.AppendLies
import Derived.Deep.LoopGhost
namespace Go.Proofs.Ytobeppeadkoieaa
open Go.RowKit
def unit1 (k : Int) : Rg.R := (k, k+1)
theorem in_units (L : List Int) (x : Int) : Rg.In (L.map unit1) x ↔ x ∈ L := by
  constructor
  · rintro ⟨r, hr, h1, h2⟩
    obtain ⟨k, hk, rfl⟩ := List.mem_map.1 hr
    simp only [unit1] at h1 h2
    have : x = k := by omega
    subst this; exact hk
  · intro h
    exact ⟨unit1 x, List.mem_map_of_mem h, by simp [unit1], by simp only [unit1]; omega⟩
theorem nl_units {L M : List Int} (h : ∀ x, x ∈ L ↔ x ∈ M) : Rg.nl (L.map unit1) = Rg.nl (M.map unit1) :=
  (Rg.nl_is _).uniq (Rg.nl_is _) fun x => by rw [in_units, in_units, h]
theorem units_ir {L : List Int} (h : ∀ x ∈ L, 0 ≤ x ∧ x < 1048576) : Rg.IR (L.map unit1) := by
  intro r hr
  obtain ⟨k, hk, rfl⟩ := List.mem_map.1 hr
  have := h k hk
  unfold Rg.I64 unit1
  simp only; omega
set_option maxHeartbeats 1600000 in
set_option maxRecDepth 100000 in
theorem Listed_any (A : Option Addr) (len cap : Nat) (w : World) (l : List Int) (hlen : l.length = len) (hr : RdI w w.heap.size A l) (hm : len ≤ 100000) (hb : ∀ x ∈ l, 0 ≤ x ∧ x < 1048576) :
    Calls Try.prog 19 #[.slice A len cap] w fun e w' => (∃ A' m c, e = .returned (.slice A' m c) ∧ Rg.Own w' w.heap.size A' m c (Rg.nl (l.map unit1))) ∧ Below w.heap.size w w' := by
  obtain ⟨i0, hi, hz0, hz1, hz2⟩ := info_parts Rg.info29
  have H := Lib.hid hlen; have HR := Lib.hid hr; have HI := Lib.hid hb
  clear hlen hr hb
  go_enter Try.func19, Try.ntmps19
  go_wp2_with fail
  generalize hBB : w.heap.size = BB at *
  have HB := Lib.hid hBB; clear hBB
  go_loopw [3, 4] (fun v i wr => ∃ (k : Nat) (A' : Option Addr) (c : Nat), k ≤ len ∧ i = .int .i64 k ∧ v = .slice A' k c ∧ Hid (Rg.Own wr BB A' k c ((l.take k).map unit1)) ∧ Hid (Below BB w wr)) (fun _ i _ => len - (intOf i).toNat)
  case atStart => exact ⟨0, none, 0, Nat.zero_le _, rfl, rfl, Lib.hid (Rg.Own.nil _ _), Lib.hid (Below.refl _ _)⟩
  case round =>
    obtain ⟨k, A', c, hk, rfl, rfl, hown, hb⟩ := hrel
    have hsz : BB ≤ wr.heap.size := by have := hb.out.size; have := HB.out; omega
    by_cases hlt : k < len
    · obtain ⟨x, hx⟩ := get_some l k (by have := H.out; omega)
      have hxb := HI.out x (List.mem_of_getElem? hx)
      have HT := Lib.hid (take_snoc l k x hx)
      obtain ⟨b, off, rfl, hb', d0⟩ := (HR.out.below hb.out (by have := HB.out; omega)) k x hx
      have hbz : b < wr.heap.size := by have := HB.out; omega
      have qx : IntKind.i64.wrap (x + 1) = x + 1 := IntWalk.i64_in _ (by omega)
      have hn1 : (Value.slice A' k c).ownBlock ≠ some b := fun e => by have := (hown.out.2.lt _ e).1; have := HB.out; omega
      clear hx hb'
      go_wp2_with fail
      go_region_held3 (fun w' => w'.cell? ⟨b, off + k, none⟩ = some (.int .i64 x))
        (first
          | go_keep
          | (rw [hgrow.cell_far _ (by simp; omega) (Ne.symm hn1)]; assumption))
        ((refine step_append_lies _ (by rfl) _ _ _ (by rfl) BB 63 i0 _ 2 16 Try.underlying36 hi hz0 hz1 hz2 rfl (by omega) (.slice A' k c) k (Rg.cells ((l.take k).map unit1)) (by rfl) ((hown.out.2.alloc _).drew) ⟨wr.heap.size, 0, none⟩ 1 1 (Rg.cells [(x, x+1)]) (by rfl) (by rfl) (Rg.new_one wr (x, x+1) _ rfl) (Rg.cells_one_cell _) (by omega) (by unfold maxLen; omega) (by omega) (by simp; omega) (wr.heap.size + 1) (by simp) ?_; intro gg c8 w4 hown' hgrow hat hlt9))
      obtain ⟨⟨A8, c8', hv, hown2⟩, hb3, hb4, _, _⟩ := Rg.appL_step hown.out hb.out hsz (belowDrewN ((Below.refl _ _).alloc (Nat.le_refl _) _) 1) (m := 1) (K := [(x, x+1)]) rfl hown' hgrow
      simp only [Value.slice.injEq, true_and] at hv
      obtain ⟨rfl, rfl⟩ := hv
      have HO9 : Hid (Rg.Own w4 BB (some ⟨gg, 0, none⟩) (k+1) c8 ((l.take (k+1)).map unit1)) := Lib.hid (by rw [HT.out, List.map_append]; exact hown2)
      have HB9 := Lib.hid hb3
      clear hown' hgrow hown2 hb3 hb4 hat
      go_wp2_with fail
      go_roundw
      case rel => exact ⟨k+1, _, c8, by omega, by go_num, rfl, HO9, HB9⟩
      case measure => simp [intOf]; omega
    · obtain rfl : k = len := by omega
      have e1 : l.take k = l := by rw [List.take_of_length_le (Nat.le_of_eq H.out)]
      rw [e1] at hown
      clear hlt
      go_wp2_with fail
      refine (Rg.Mix_any A' k c none 0 0 0 (.inl rfl) _ (l.map unit1) [] (by rw [List.length_map]; exact H.out) hown.out.rd (units_ir HI.out) rfl (Rg.Rd.nil _ _ _) (fun r hr => absurd hr List.not_mem_nil) (by omega) (by omega)).mono ?_
      rintro e w3 ⟨⟨A3, m3, c3, rfl, hO3⟩, hb3⟩
      rw [Rg.mix_nl] at hO3
      have HO3 := Lib.hid hO3; have HB3 := Lib.hid hb3
      clear hO3 hb3
      go_wp2_with fail
      go_ret
      obtain rfl := HB.out
      exact ⟨⟨A3, m3, c3, rfl, HO3.out.mono hsz⟩, hb.out.trans (HB3.out.mono hsz)⟩
theorem ownR_keptBy {w w' : World} {base n c : Nat} {A : Option Addr} {l : List Rg.R} {r : Nat} (h : Rg.Own w base A n c l) (hg : w.grownBy w' (some r)) (hr : r < base) : Rg.Own w' base A n c l :=
  ⟨h.1, h.2.kept hg (.inr fun hh => by have := h.2.lt r hh; omega)⟩
set_option maxRecDepth 100000 in
set_option maxHeartbeats 1600000 in
theorem listed_any (w : World) (cb n : Nat) (u : Int → Bool) (hM : SetM w Try.prog 3 4 cb n u) (U : List Int) (hU : ∀ x, x ∈ U ↔ u x = true) (hb : ∀ x ∈ U, 0 ≤ x ∧ x < 1048576) (hn : n ≤ 1099511627776) :
    Calls Try.prog 28 #[.map (some cb)] w fun e w' => (∃ A' m c, e = .returned (.slice A' m c) ∧ Rg.Own w' w.heap.size A' m c (Rg.nl (U.map unit1))) ∧ Below w.heap.size w w' := by
  obtain ⟨i0, hi, hz0, hz1, hz2⟩ := info_parts Rg.info29
  obtain ⟨w1, hrun, ⟨c0, hr1⟩, hg1, hs1⟩ := hM.range mty
  have hcb := hM.lt
  have HR1 := Lib.hid hr1
  have HG1 := Lib.hid hg1
  have HU := Lib.hid hU
  have HK := Lib.hid hb
  clear hM hr1 hg1 hU hb
  generalize hB0 : w.heap.size = B0 at *
  have HB0 := Lib.hid hB0
  clear hB0
  go_enter Try.func28, Try.ntmps28
  go_wp2_with fail
  go_loopg [3] c0 (fun gh v wr => ∃ (L : List Int) (A' : Option Addr) (c : Nat), v = .slice A' L.length c ∧ Hid (RC wr Try.prog 3 4 cb B0 n u L gh) ∧ Hid (Rg.Own wr (B0+1) A' L.length c (L.map unit1)) ∧ Hid (Below B0 w wr) ∧ B0 + 1 ≤ wr.heap.size)
  case atStart => exact ⟨[], Option.none, 0, rfl, HR1, Lib.hid (Rg.Own.nil _ _), Lib.hid ⟨HG1.out.os, HG1.out.tape, HG1.out.output, HG1.out.size, fun k hk => HG1.out.block k (by have := HB0.out; omega) (by simp)⟩, by omega⟩
  case round =>
    obtain ⟨L, A', c, rfl, HRC, HO, HB, hsz⟩ := hrel
    have hLn : L.length + gk ≤ n := by obtain ⟨_, _, _, _, _, h, _⟩ := HRC.out; exact h
    rcases HRC.out.next mty 0 with ⟨hrun2, hz, hall⟩ | ⟨k, v, w2, c', hrun2, hk1, hk2, hk3, hr2, hlt, hg2, hs2, hen⟩
    · have HALL := Lib.hid hall
      have HLK := Lib.hid (show ∀ j ∈ L, I64 j ∧ u j = true from by obtain ⟨_, _, _, _, _, _, h⟩ := HRC.out; exact h)
      have HLU := Lib.hid (show ∀ x, x ∈ L ↔ x ∈ U from fun x => ⟨fun h => (HU.out x).2 (HLK.out x h).2, fun h => HALL.out x (by have := HK.out x h; unfold I64; omega) ((HU.out x).1 h)⟩)
      clear hall
      go_wp2_with fail
      have hrd : Rg.Rd wr wr.heap.size A' (L.map unit1) := HO.out.rd
      refine (Rg.Normal_any A' L.length c _ (L.map unit1) (by simp) hrd (units_ir (fun x hx => HK.out x ((HLU.out x).1 hx))) (by omega)).mono ?_
      rintro e w3 ⟨⟨A3, m3, c3, rfl, hO3⟩, hb3⟩
      rw [nl_units HLU.out] at hO3
      have HO3 := Lib.hid hO3
      have HB3 := Lib.hid hb3
      clear hO3 hb3
      go_wp2_with fail
      go_ret
      exact ⟨⟨A3, m3, c3, rfl, HO3.out.mono (by omega)⟩, HB.out.trans (HB3.out.mono (by omega))⟩
    · have HO2 : Hid (Rg.Own w2 (B0+1) A' L.length c (L.map unit1)) := Lib.hid (ownR_keptBy HO.out hg2 (by omega))
      have HB2 : Hid (Below B0 w w2) := Lib.hid (HB.out.grown hg2 (by omega) (fun k hk => by injection hk with hk; omega))
      have hkb := HK.out k ((HU.out k).2 hk3)
      have q1 : IntKind.i64.wrap (k + 1) = k + 1 := IntWalk.i64_in _ (by omega)
      have HR2 := Lib.hid hr2
      have hsz2 : B0 + 1 ≤ w2.heap.size := by omega
      clear hg2 hr2 hk1 hk2 hk3 hs2
      go_wp2_with (at_builtin; refine wpList_append_own _ rfl _ _ 36 rfl (B0+1) 63 i0 _ 2 16 Try.underlying36 hi hz0 hz1 hz2 rfl (by decide) _ _ _ rfl (HO2.out.alloc _).2 ⟨w2.heap.size, 0, none⟩ 1 1 (Rg.cells [(k, k+1)]) rfl rfl (Rg.new_one _ (k, k+1) _ rfl) (Rg.cells_one_cell _) (by unfold maxLen; omega) (by omega) (by simp; omega) ?_)
      intro v' w4 hown' hgrow _
      obtain ⟨⟨A4, c4', hv, hown4⟩, hb4, hst, _, _⟩ := Rg.appL_step (w := w2) HO2.out (Below.refl _ _) (by omega) ((Below.refl _ _).alloc (Nat.le_refl _) _) (m := 1) (K := [(k, k+1)]) rfl hown' hgrow
      have HO4 : Hid (Rg.Own w4 (B0+1) A4 (L ++ [k]).length c4' ((L ++ [k]).map unit1)) := Lib.hid (by simpa [unit1] using hown4)
      have HB4 : Hid (Below B0 w w4) := Lib.hid (HB2.out.trans (hst.mono (by omega)))
      have HR4 : Hid (RC w4 Try.prog 3 4 cb B0 n u (L ++ [k]) c') := Lib.hid ((HR2.out.kept (World.grownBy_alloc _ _ none) (by simp) (by simp)).kept hgrow (fun e => by
          have := HO2.out.2.lt cb e.symm; omega) (fun e => by have := HO2.out.2.lt B0 e.symm; omega))
      have hsz4 : B0 + 1 ≤ w4.heap.size := by have := hst.size; omega
      subst hv
      clear hown' hgrow hown4 hb4 hst
      go_wp2_with fail
      go_roundg c'
      case rel => exact ⟨L ++ [k], A4, c4', by simp, HR4, HO4, HB4, hsz4⟩
      case measure => exact hlt
section
variable {w : World} {sb bu bw : Nat} {res : Int} {u wt : Int → Bool} {A : Option Addr} {c : Nat} {tk : List Int} {N : Nat}
theorem Used_any (h : Sp w sb bu bw res u wt A c tk N) (U : List Int) (hU : ∀ x, x ∈ U ↔ u x = true) (hb : ∀ x ∈ U, 0 ≤ x ∧ x < 1048576) (hN : N ≤ 1099511627776) :
    Calls Try.prog 10 #[.pointer (some ⟨sb, 0, none⟩)] w fun e w' => (∃ A' m c, e = .returned (.slice A' m c) ∧ Rg.Own w' w.heap.size A' m c (Rg.nl (U.map unit1))) ∧ Below w.heap.size w w' := by
  have c1 := h.c1
  have HL := Lib.hid (listed_any w bu N u h.hu U hU hb hN)
  clear h hU hb
  go_enter Try.func10, Try.ntmps10
  go_wp2_with fail
  refine HL.out.mono ?_
  rintro e w1 ⟨⟨A3, m3, c3, rfl, hO3⟩, hb3⟩
  have HO := Lib.hid hO3; have HB := Lib.hid hb3
  clear hO3 hb3
  go_wp2_with fail
  go_ret
  exact ⟨⟨_, _, _, rfl, HO.out⟩, HB.out⟩
theorem Waiting_any (h : Sp w sb bu bw res u wt A c tk N) (U : List Int) (hU : ∀ x, x ∈ U ↔ wt x = true) (hb : ∀ x ∈ U, 0 ≤ x ∧ x < 1048576) (hN : N ≤ 1099511627776) :
    Calls Try.prog 11 #[.pointer (some ⟨sb, 0, none⟩)] w fun e w' => (∃ A' m c, e = .returned (.slice A' m c) ∧ Rg.Own w' w.heap.size A' m c (Rg.nl (U.map unit1))) ∧ Below w.heap.size w w' := by
  have c2 := h.c2
  have HL := Lib.hid (listed_any w bw N wt h.hw U hU hb hN)
  clear h hU hb
  go_enter Try.func11, Try.ntmps11
  go_wp2_with fail
  refine HL.out.mono ?_
  rintro e w1 ⟨⟨A3, m3, c3, rfl, hO3⟩, hb3⟩
  have HO := Lib.hid hO3; have HB := Lib.hid hb3
  clear hO3 hb3
  go_wp2_with fail
  go_ret
  exact ⟨⟨_, _, _, rfl, HO.out⟩, HB.out⟩
end
end Go.Proofs.Ytobeppeadkoieaa
