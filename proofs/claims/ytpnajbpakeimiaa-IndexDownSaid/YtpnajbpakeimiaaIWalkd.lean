/-
  What index.Known answers.
-/
import Derived.Test.YtpnajbpakeimiaaIWalkb
import Derived.Test.YtpnajbpakeimiaaRWalkc
namespace Go.Proofs.Ytpnajbpakeimiaa
open Go.RowKit
def unit1 (k : Int) : R := (k, k+1)
theorem in_units (L : List Int) (x : Int) : In (L.map unit1) x ↔ x ∈ L := by
  constructor
  · rintro ⟨r, hr, h1, h2⟩
    obtain ⟨k, hk, rfl⟩ := List.mem_map.1 hr
    simp only [unit1] at h1 h2
    have : x = k := by omega
    subst this; exact hk
  · intro h
    exact ⟨unit1 x, List.mem_map_of_mem h, by simp [unit1], by simp only [unit1]; omega⟩
theorem Known_nil (w : World) : Calls Try.prog 13 #[.pointer none] w fun e w' => e = .returned (.slice none 0 0) ∧ w = w' := by
  go_enter Try.func13, Try.ntmps13
  go_wp2_with fail
  go_ret
  exact ⟨rfl, rfl⟩
theorem Own.keptBy {w w' : World} {base n c : Nat} {A : Option Addr} {l : List R} {r : Nat} (h : Own w base A n c l) (hg : w.grownBy w' (some r)) (hr : r < base) : Own w' base A n c l :=
  ⟨h.1, h.2.kept hg (.inr fun hh => by have := h.2.lt r hh; omega)⟩
section
variable {xb cb db : Nat} {size rd : Int} {n : Nat} {u : Int → Option Int}
set_option maxRecDepth 20000 in
set_option maxHeartbeats 800000 in
theorem Known_any (w : World) (hI : IxAt w xb cb db size rd n u) (hk : ∀ j, (u j).isSome = true → 0 ≤ j ∧ j ≤ 1048576) (hn : n ≤ 1099511627776) :
    Calls Try.prog 13 #[.pointer (some ⟨xb, 0, none⟩)] w fun e w' => (∃ A' m c l, e = .returned (.slice A' m c) ∧ Own w' w.heap.size A' m c l ∧ Is l (fun x => 0 ≤ x ∧ (u x).isSome = true)) ∧ Below w.heap.size w w' := by
  obtain ⟨i0, hi, hz0, hz1, hz2⟩ := info_parts info29
  obtain ⟨_, _, _, _, c4⟩ := hI.cells
  obtain ⟨w1, hrun, ⟨c0, hr1⟩, hg1, hs1⟩ := hI.map.range
  have hcb := hI.map.lt
  have HR1 := Lib.hid hr1
  have HG1 := Lib.hid hg1
  have HK := Lib.hid hk
  clear hI hr1 hg1 hk
  generalize hB0 : w.heap.size = B0 at *
  have HB0 := Lib.hid hB0
  clear hB0
  go_enter Try.func13, Try.ntmps13
  go_wp2_with fail
  go_loopg [3] c0 (fun gh v wr => ∃ (L : List Int) (A' : Option Addr) (c : Nat), v = .slice A' L.length c ∧ Hid (RC wr cb B0 n u L gh) ∧ Hid (Own wr (B0+1) A' L.length c (L.map unit1)) ∧ Hid (Below B0 w wr) ∧ B0 + 1 ≤ wr.heap.size)
  case atStart => exact ⟨[], Option.none, 0, rfl, HR1, Lib.hid (Own.nil _ _), Lib.hid ⟨HG1.out.os, HG1.out.tape, HG1.out.output, HG1.out.size, fun k hk => HG1.out.block k (by have := HB0.out; omega) (by simp)⟩, by omega⟩
  case round =>
    obtain ⟨L, A', c, rfl, HRC, HO, HB, hsz⟩ := hrel
    have hLn : L.length + gk ≤ n := by obtain ⟨_, _, _, _, _, h, _⟩ := HRC.out; exact h
    rcases HRC.out.next 0 with ⟨hrun2, hz, hall⟩ | ⟨k, v, w2, c', hrun2, hk1, hk2, hk3, hr2, hlt, hg2, hs2, hen⟩
    · have HALL := Lib.hid hall
      have HLK := Lib.hid (show ∀ j ∈ L, I64 j ∧ (u j).isSome = true from by obtain ⟨_, _, _, _, _, _, h⟩ := HRC.out; exact h)
      clear hall
      go_wp2_with fail
      have hrd : Rd wr wr.heap.size A' (L.map unit1) := HO.out.rd
      refine (Normal_any A' L.length c _ (L.map unit1) (by simp) hrd (fun r hr => ?_) (by omega)).mono ?_
      · obtain ⟨k, hk, rfl⟩ := List.mem_map.1 hr
        have h1 := HK.out k (HLK.out k hk).2
        unfold I64 unit1
        simp only
        omega
      rintro e w3 ⟨⟨A3, m3, c3, rfl, hO3⟩, hb3⟩
      have HO3 := Lib.hid hO3
      have HB3 := Lib.hid hb3
      clear hO3 hb3
      go_wp2_with fail
      go_ret
      refine ⟨⟨A3, m3, c3, _, rfl, HO3.out.mono (by omega), (nl_is _).congr fun x => ?_⟩, HB.out.trans (HB3.out.mono (by omega))⟩
      rw [in_units]
      exact ⟨fun h => ⟨h.1, (HLK.out x h.2).2⟩, fun h => ⟨h.1, HALL.out x (by have := HK.out x h.2; unfold I64; omega) h.2⟩⟩
    · have HO2 : Hid (Own w2 (B0+1) A' L.length c (L.map unit1)) := Lib.hid (HO.out.keptBy hg2 (by omega))
      have HB2 : Hid (Below B0 w w2) := Lib.hid (HB.out.grown hg2 (by omega) (fun k hk => by injection hk with hk; omega))
      have hkb := HK.out k hk3
      have q1 : IntKind.i64.wrap (k + 1) = k + 1 := IntWalk.i64_in _ (by omega)
      have HR2 := Lib.hid hr2
      have hsz2 : B0 + 1 ≤ w2.heap.size := by omega
      clear hg2 hr2 hk1 hk2 hk3 hs2
      go_wp2_with (at_builtin; refine wpList_append_own _ rfl (.tmp 16) (.tmp 21) 29 rfl (B0+1) 36 i0 _ 2 16 Try.underlying29 hi hz0 hz1 hz2 rfl (by decide) _ _ _ rfl (HO2.out.alloc _).2 ⟨w2.heap.size, 0, none⟩ 1 1 (cells [(k, k+1)]) rfl rfl (new_one _ (k, k+1) _ rfl) (cells_one_cell _) (by unfold maxLen; omega) (by omega) (by simp; omega) ?_)
      intro v' w4 hown' hgrow _
      obtain ⟨⟨A4, c4', hv, hown4⟩, hb4, hst, _, _⟩ := appL_step (w := w2) HO2.out (Below.refl _ _) (by omega) ((Below.refl _ _).alloc (Nat.le_refl _) _) (m := 1) (K := [(k, k+1)]) rfl hown' hgrow
      have HO4 : Hid (Own w4 (B0+1) A4 (L ++ [k]).length c4' ((L ++ [k]).map unit1)) := Lib.hid (by simpa [unit1] using hown4)
      have HB4 : Hid (Below B0 w w4) := Lib.hid (HB2.out.trans (hst.mono (by omega)))
      have HR4 : Hid (RC w4 cb B0 n u (L ++ [k]) c') := Lib.hid ((HR2.out.kept (World.grownBy_alloc _ _ none) (by simp) (by simp)).kept hgrow (fun e => by
          have := HO2.out.2.lt cb e.symm; omega) (fun e => by have := HO2.out.2.lt B0 e.symm; omega))
      have hsz4 : B0 + 1 ≤ w4.heap.size := by have := hst.size; omega
      subst hv
      clear hown' hgrow hown4 hb4 hst
      go_wp2_with fail
      go_roundg c'
      case rel => exact ⟨L ++ [k], A4, c4', by simp, HR4, HO4, HB4, hsz4⟩
      case measure => exact hlt
end
end Go.Proofs.Ytpnajbpakeimiaa
