/-
  What the space's Top answers, and its Take where no page is free.
-/
import Derived.Test.YtobeppeadkoieaaRefe
namespace Go.Proofs.Ytobeppeadkoieaa
open Go.RowKit
section
variable {w : World} {sb bu bw : Nat} {res : Int} {u wt : Int → Bool} {A : Option Addr} {c : Nat} {tk : List Int} {N : Nat}
set_option maxRecDepth 100000 in
set_option maxHeartbeats 1600000 in
theorem Top_any (h : Sp w sb bu bw res u wt A c tk N) (U W : List Int) (hU : ∀ x, x ∈ U ↔ u x = true) (hW : ∀ x, x ∈ W ↔ wt x = true) (hbu : ∀ x ∈ U, 0 ≤ x ∧ x < 1048576) (hbw : ∀ x ∈ W, 0 ≤ x ∧ x < 1048576) (r0 : 0 ≤ res) (r1 : res ≤ 1048576) :
    Calls Try.prog 17 #[.pointer (some ⟨sb, 0, none⟩)] w fun e w' => e = .returned (.int .i64 (topL (topL res U) W)) ∧ Below w.heap.size w w' := by
  have c0 := h.c0
  have c1 := h.c1
  have c2 := h.c2
  have hlt := h.lt
  have l1 := h.l1
  have l2 := h.l2
  obtain ⟨w1, hrun, ⟨g0, hr1⟩, hg1, hs1⟩ := h.hu.range mty
  have HR1 := Lib.hid hr1
  have HG1 := Lib.hid hg1
  have HU := Lib.hid hU; have HW := Lib.hid hW
  have HKU := Lib.hid hbu; have HKW := Lib.hid hbw
  have HMW := Lib.hid h.hw
  clear hr1 hg1 hU hW hbu hbw h
  generalize hB0 : w.heap.size = B0 at *
  have HB0 := Lib.hid hB0
  clear hB0
  go_enter Try.func17, Try.ntmps17
  go_wp2_with fail
  go_loopg [3] g0 (fun gh v wr => ∃ (L : List Int), v = .int .i64 (topL res L) ∧ Hid (RC wr Try.prog 3 4 bu B0 N u L gh) ∧ Hid (Below B0 w wr) ∧ B0 + 1 ≤ wr.heap.size)
  case atStart => exact ⟨[], rfl, HR1, Lib.hid ⟨HG1.out.os, HG1.out.tape, HG1.out.output, HG1.out.size, fun k hk => HG1.out.block k (by have := HB0.out; omega) (by simp)⟩, by omega⟩
  case round =>
    obtain ⟨L, rfl, HRC, HB, hsz⟩ := hrel
    have HLK := Lib.hid (show ∀ j ∈ L, I64 j ∧ u j = true from by obtain ⟨_, _, _, _, _, _, h⟩ := HRC.out; exact h)
    have htb := topL_bd L res ⟨r0, r1⟩ (fun x hx => HKU.out x ((HU.out x).2 (HLK.out x hx).2))
    rcases HRC.out.next mty 0 with ⟨hrun2, hz, hall⟩ | ⟨k, v, w2, c', hrun2, hk1, hk2, hk3, hr2, hlt2, hg2, hs2, hen⟩
    · have HLU : Hid (topL res L = topL res U) := Lib.hid (topL_set (fun x => ⟨fun h => (HU.out x).2 (HLK.out x h).2, fun h => hall x (by have := HKU.out x h; unfold I64; omega) ((HU.out x).1 h)⟩) res)
      clear hall
      rw [HLU.out] at htb ⊢
      obtain ⟨t0, ht0⟩ : ∃ t0, topL res U = t0 := ⟨_, rfl⟩
      rw [ht0] at htb ⊢
      have HT0 := Lib.hid ht0
      have k2 := (HB.out.cell (p := ⟨sb, 2, none⟩) hlt).trans c2
      have hMw : SetM wr Try.prog 3 4 bw N wt := HMW.out.below HB.out (by omega)
      obtain ⟨w5, hrun5, ⟨g5, hr5⟩, hg5, hs5⟩ := hMw.range mty
      have HR5 := Lib.hid hr5
      have HB5 : Hid (Below B0 w w5) := Lib.hid (HB.out.trans ⟨hg5.os, hg5.tape, hg5.output, hg5.size, fun k hk => hg5.block k (by omega) (by simp)⟩)
      have hsz5 : B0 + 1 ≤ w5.heap.size := by omega
      clear hr5 hg5 hMw ht0 HRC HLK HLU
      generalize wr.heap.size = B1 at *
      go_wp2_with fail
      go_loopg [3] g5 (fun gh v wy => ∃ (L2 : List Int), v = .int .i64 (topL t0 L2) ∧ Hid (RC wy Try.prog 3 4 bw B1 N wt L2 gh) ∧ Hid (Below B0 w wy))
      case atStart => exact ⟨[], rfl, HR5, HB5⟩
      case round =>
        obtain ⟨L2, rfl, HRC2, HB2⟩ := hrel
        have HLK2 := Lib.hid (show ∀ j ∈ L2, I64 j ∧ wt j = true from by obtain ⟨_, _, _, _, _, _, h⟩ := HRC2.out; exact h)
        have htb2 := topL_bd L2 t0 htb (fun x hx => HKW.out x ((HW.out x).2 (HLK2.out x hx).2))
        rcases HRC2.out.next mty 0 with ⟨hrun6, hz6, hall⟩ | ⟨k, v, w6, c', hrun6, hk1, hk2, hk3, hr6, hlt6, hg6, hs6, hen6⟩
        · have HLU2 : Hid (topL t0 L2 = topL t0 W) := Lib.hid (topL_set (fun x => ⟨fun h => (HW.out x).2 (HLK2.out x h).2, fun h => hall x (by have := HKW.out x h; unfold I64; omega) ((HW.out x).1 h)⟩) t0)
          clear hall
          rw [HLU2.out]
          go_wp2_with fail
          go_ret
          obtain rfl := HB0.out
          exact ⟨ret_int (by rw [HT0.out]), HB2.out⟩
        · have hkb := HKW.out k ((HW.out k).2 hk3)
          have HB7 : Hid (Below B0 w w6) := Lib.hid (HB2.out.grown hg6 (by have := HB2.out.size; have := HB0.out; omega) (fun k hk => by injection hk with hk; omega))
          have HR6 := Lib.hid hr6
          have HT : Hid (topL t0 (L2 ++ [k]) = max (topL t0 L2) (k + 1)) := Lib.hid (by rw [topL, List.foldl_append]; rfl)
          have q1 : IntKind.i64.wrap (k + 1) = k + 1 := IntWalk.i64_in _ (by omega)
          clear hg6 hr6 hk1 hk2 hk3 hs6
          generalize topL t0 L2 = t at *
          by_cases hm : t ≤ k + 1
          all_goals
            go_wp2_with fail
            go_roundg c'
            case rel => exact ⟨L2 ++ [k], by rw [HT.out], HR6, HB7⟩
            case measure => exact hlt6
    · have hkb := HKU.out k ((HU.out k).2 hk3)
      have HB7 : Hid (Below B0 w w2) := Lib.hid (HB.out.grown hg2 (by omega) (fun k hk => by injection hk with hk; omega))
      have HR6 := Lib.hid hr2
      have hsz2 : B0 + 1 ≤ w2.heap.size := by omega
      have HT : Hid (topL res (L ++ [k]) = max (topL res L) (k + 1)) := Lib.hid (by rw [topL, List.foldl_append]; rfl)
      have q1 : IntKind.i64.wrap (k + 1) = k + 1 := IntWalk.i64_in _ (by omega)
      clear hg2 hr2 hk1 hk2 hk3 hs2
      generalize topL res L = t at *
      by_cases hm : t ≤ k + 1
      all_goals
        go_wp2_with fail
        go_roundg c'
        case rel => exact ⟨L ++ [k], by rw [HT.out], HR6, HB7, hsz2⟩
        case measure => exact hlt2
/-- No page is free. -/
theorem Take_full (h : Sp w sb bu bw res u wt A c tk N) (hr0 : 0 ≤ res) (hr1 : res ≤ 1048576) (hall : ∀ i, res ≤ i → i < 1048576 → u i = true ∨ wt i = true) :
    Calls Try.prog 13 #[.pointer (some ⟨sb, 0, none⟩)] w fun e w' => e = .returned (.tuple #[.int .i64 0, .int .i64 9]) ∧ w = w' := by
  have c0 := h.c0
  have c1 := h.c1
  have c2 := h.c2
  have HH := Lib.hid h
  have HA := Lib.hid hall
  clear h hall
  go_enter Try.func13, Try.ntmps13
  go_wp2_with fail
  go_loopw [4] (fun i wr => ∃ x : Int, res ≤ x ∧ x ≤ 1048576 ∧ i = .int .i64 x ∧ w = wr) (fun i _ => (1048576 - intOf i).toNat)
  case atStart => exact ⟨res, Int.le_refl _, hr1, rfl, rfl⟩
  case round =>
    obtain ⟨x, h0, h1, rfl, rfl⟩ := hrel
    have qx : IntKind.i64.wrap (x + 1) = x + 1 := IntWalk.i64_in _ (by omega)
    by_cases hlt : x < 1048576
    · have hI : I64 x := ⟨by omega, by omega⟩
      have L1 := HH.out.hu.lookup mty hI
      have L2 := HH.out.hw.lookup mty hI
      cases hx : u x with
      | true =>
        rw [hx] at L1
        go_wp2_with fail
        go_roundw
        case rel => exact ⟨x+1, by omega, by omega, rfl, trivial⟩
        case measure => simp [intOf]; omega
      | false =>
        rw [hx] at L1
        have hx2 : wt x = true := (HA.out x h0 hlt).resolve_left (by rw [hx]; decide)
        rw [hx2] at L2
        go_wp2_with fail
        go_roundw
        case rel => exact ⟨x+1, by omega, by omega, rfl, trivial⟩
        case measure => simp [intOf]; omega
    · go_wp2_with fail
      go_ret2
      exact ⟨rfl, rfl⟩
end
end Go.Proofs.Ytobeppeadkoieaa
