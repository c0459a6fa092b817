/-
  What the reference's Open of a superblock answers.
-/
import Derived.Test.YtblibmalommdkaaGreatUPack
import Derived.Test.YtblibmalommdkaaGreatUOpen
import Derived.Test.YtblibmalommdkaaGreatMB
import Derived.Test.YtblibmalommdkaaGreatEB
import Derived.Deep.RegionLaw
import Derived.Deep.RegionHeld3
namespace Go.Proofs.YtblibmalommdkaaGreat
open Go.RowKit
open Re (Sup Bytes RdB leVal crcOf outS sup0 formS supOf okS packS formS_iff openS bytes_take bytes_drop number16_any crcRef_any RefPackS_yes RefPackS_no OwnB Same_true crcOf_lt leVal_lt4)
set_option maxRecDepth 100000 in
set_option maxHeartbeats 8000000 in
theorem RefOpenS_any (b off c : Nat) (w : World) (l : List Int) (hl : l.length = 64) (hr : RdB w w.heap.size (some ⟨b, off, none⟩) l) (hy : Bytes l) (hc0 : 64 ≤ c) (hc : c ≤ 9223372036854775807) :
    Calls Tryz.prog 29 #[.slice (some ⟨b, off, none⟩) 64 c] w fun e w' => e = .returned (.tuple #[.agg (outS l).1.cells, .int .i64 (outS l).2]) ∧ Below w.heap.size w w' := by
  have hq : (l.take 60).length = 60 := by rw [List.length_take, hl]; rfl
  have hyq := bytes_take hy 60
  have hrq : RdB w w.heap.size (some ⟨b, off, none⟩) (l.take 60) := by simpa using hr.piece 0 60
  have hrs : RdB w w.heap.size (some ⟨b, off + 60, none⟩) (l.drop 60) := by
    have := hr.piece 60 4
    rwa [List.take_of_length_le (by rw [List.length_drop, hl]; omega)] at this
  have HQ := Lib.hid hq; have HYQ := Lib.hid hyq; have HRQ := Lib.hid hrq; have HRS := Lib.hid hrs
  have HYS := Lib.hid (bytes_drop hy 60)
  have HLS : Hid ((l.drop 60).length = 4) := Lib.hid (by rw [List.length_drop, hl])
  have hcr := crcOf_lt hyq
  have HE : Hid (outS l = if leVal (l.drop 60) ≠ (crcOf (l.take 60) : Int) then (sup0, 5) else if formS (l.take 60) = true then (supOf (l.take 60), 0) else (sup0, 4)) := Lib.hid rfl
  have HL := Lib.hid hl; have HRL := Lib.hid hr; have HYL := Lib.hid hy
  clear hq hyq hrq hrs hl hr hy
  generalize outS l = res at *
  have hwr : IntKind.i64.wrap (crcOf (l.take 60) : Int) = crcOf (l.take 60) := by rw [IntKind.wrap_i64]; omega
  go_enter Tryz.func29, Tryz.ntmps29
  go_upto_region 3 with (fail)
  have HCz := Lib.hid (heap_alloc_new w (.cells #[.int .i64 0, .int .i64 0, .int .i64 0, .int .i64 0, .int .i64 0] 26))
  have hbz : Below w.heap.size w (w.alloc (.cells #[.int .i64 0, .int .i64 0, .int .i64 0, .int .i64 0, .int .i64 0] 26)) := (Below.refl _ _).alloc (Nat.le_refl _) _
  have HBz := Lib.hid hbz
  have hsz : (w.alloc (.cells #[.int .i64 0, .int .i64 0, .int .i64 0, .int .i64 0, .int .i64 0] 26)).heap.size = w.heap.size + 1 := by simp
  clear hbz
  generalize w.alloc (.cells #[.int .i64 0, .int .i64 0, .int .i64 0, .int .i64 0, .int .i64 0] 26) = wz at *
  have hc1 := number16_any (some ⟨b, off + 60, none⟩) 4 (c - 60) wz.drew (l.drop 60) HLS.out ((HRS.out.up HBz.out).drewN 1) HYS.out (by omega) (by omega)
  have hc2 := crcRef_any (some ⟨b, off, none⟩) 60 c wz.drew (l.take 60) HQ.out ((HRQ.out.up HBz.out).drewN 1) HYQ.out (by omega)
  have HX := Lib.hid (leVal_lt4 (l.drop 60) HYS.out (by rw [HLS.out]; exact Nat.le_refl _))
  have i64 : (64 : Int) ≤ (c : Int) := by omega
  have i60 : (60 : Int) ≤ (c : Int) := by omega
  have n60 : ¬ (c = 60) := by omega
  go_region_held3 (fun _ => True) (trivial) ((first | (go_at_call 48; refine hc1.mono ?_; rintro e w9 ⟨rfl, rfl⟩) | (go_at_call 49; refine hc2.mono ?_; rintro e w9 ⟨rfl, rfl⟩) | fail))
  obtain ⟨x, hxl⟩ : ∃ x, leVal (l.drop 60) = x := ⟨_, rfl⟩
  rw [hxl] at HX HE ⊢
  have HXL := Lib.hid hxl
  clear hc1 hc2 hxl
  by_cases hxy : x = (crcOf (l.take 60) : Int)
  · have HSUM := Lib.hid (HXL.out.trans hxy)
    have E : Hid (res = if formS (l.take 60) = true then (supOf (l.take 60), 0) else (sup0, 4)) := Lib.hid (by rw [HE.out, if_neg (by simpa using hxy)])
    have hxe : (x != (crcOf (l.take 60) : Int)) = false := by simpa using hxy
    have HSO : Hid (supOf (l.take 60) = ⟨leVal (((l.take 60).drop 8).take 6), leVal (((l.take 60).drop 14).take 4), leVal (((l.take 60).drop 18).take 1), leVal (((l.take 60).drop 19).take 4), leVal (((l.take 60).drop 23).take 4)⟩) := Lib.hid rfl
    clear HE
    go_upto_region 5 with (fail)
    obtain ⟨v0, hv0⟩ : ∃ v, leVal (((l.take 60).drop 8).take 6) = v := ⟨_, rfl⟩
    obtain ⟨o8, ho8⟩ : ∃ x, off + 8 = x := ⟨_, rfl⟩
    have hd0 : ∀ W, Below wz.heap.size wz W → Calls Tryz.prog 48 #[.slice (some ⟨b, o8, none⟩) 6 (c - 8)] W fun e w' => e = .returned (.int .i64 v0) ∧ W = w' := fun W hW => by
      have hp : RdB wz wz.heap.size (some ⟨b, off + 8, none⟩) (((l.take 60).drop 8).take 6) := (HRQ.out.up HBz.out).piece 8 6
      have h := number16_any (some ⟨b, off + 8, none⟩) 6 (c - 8) W (((l.take 60).drop 8).take 6) (by rw [List.length_take, List.length_drop, HQ.out]; rfl) (hp.up hW) (bytes_take (bytes_drop HYQ.out 8) 6) (by omega) (by omega)
      rw [hv0, ho8] at h
      exact h
    obtain ⟨v1, hv1⟩ : ∃ v, leVal (((l.take 60).drop 14).take 4) = v := ⟨_, rfl⟩
    obtain ⟨o14, ho14⟩ : ∃ x, off + 14 = x := ⟨_, rfl⟩
    have hd1 : ∀ W, Below wz.heap.size wz W → Calls Tryz.prog 48 #[.slice (some ⟨b, o14, none⟩) 4 (c - 14)] W fun e w' => e = .returned (.int .i64 v1) ∧ W = w' := fun W hW => by
      have hp : RdB wz wz.heap.size (some ⟨b, off + 14, none⟩) (((l.take 60).drop 14).take 4) := (HRQ.out.up HBz.out).piece 14 4
      have h := number16_any (some ⟨b, off + 14, none⟩) 4 (c - 14) W (((l.take 60).drop 14).take 4) (by rw [List.length_take, List.length_drop, HQ.out]; rfl) (hp.up hW) (bytes_take (bytes_drop HYQ.out 14) 4) (by omega) (by omega)
      rw [hv1, ho14] at h
      exact h
    obtain ⟨v2, hv2⟩ : ∃ v, leVal (((l.take 60).drop 18).take 1) = v := ⟨_, rfl⟩
    obtain ⟨o18, ho18⟩ : ∃ x, off + 18 = x := ⟨_, rfl⟩
    have hd2 : ∀ W, Below wz.heap.size wz W → Calls Tryz.prog 48 #[.slice (some ⟨b, o18, none⟩) 1 (c - 18)] W fun e w' => e = .returned (.int .i64 v2) ∧ W = w' := fun W hW => by
      have hp : RdB wz wz.heap.size (some ⟨b, off + 18, none⟩) (((l.take 60).drop 18).take 1) := (HRQ.out.up HBz.out).piece 18 1
      have h := number16_any (some ⟨b, off + 18, none⟩) 1 (c - 18) W (((l.take 60).drop 18).take 1) (by rw [List.length_take, List.length_drop, HQ.out]; rfl) (hp.up hW) (bytes_take (bytes_drop HYQ.out 18) 1) (by omega) (by omega)
      rw [hv2, ho18] at h
      exact h
    obtain ⟨v3, hv3⟩ : ∃ v, leVal (((l.take 60).drop 19).take 4) = v := ⟨_, rfl⟩
    obtain ⟨o19, ho19⟩ : ∃ x, off + 19 = x := ⟨_, rfl⟩
    have hd3 : ∀ W, Below wz.heap.size wz W → Calls Tryz.prog 48 #[.slice (some ⟨b, o19, none⟩) 4 (c - 19)] W fun e w' => e = .returned (.int .i64 v3) ∧ W = w' := fun W hW => by
      have hp : RdB wz wz.heap.size (some ⟨b, off + 19, none⟩) (((l.take 60).drop 19).take 4) := (HRQ.out.up HBz.out).piece 19 4
      have h := number16_any (some ⟨b, off + 19, none⟩) 4 (c - 19) W (((l.take 60).drop 19).take 4) (by rw [List.length_take, List.length_drop, HQ.out]; rfl) (hp.up hW) (bytes_take (bytes_drop HYQ.out 19) 4) (by omega) (by omega)
      rw [hv3, ho19] at h
      exact h
    obtain ⟨v4, hv4⟩ : ∃ v, leVal (((l.take 60).drop 23).take 4) = v := ⟨_, rfl⟩
    obtain ⟨o23, ho23⟩ : ∃ x, off + 23 = x := ⟨_, rfl⟩
    have hd4 : ∀ W, Below wz.heap.size wz W → Calls Tryz.prog 48 #[.slice (some ⟨b, o23, none⟩) 4 (c - 23)] W fun e w' => e = .returned (.int .i64 v4) ∧ W = w' := fun W hW => by
      have hp : RdB wz wz.heap.size (some ⟨b, off + 23, none⟩) (((l.take 60).drop 23).take 4) := (HRQ.out.up HBz.out).piece 23 4
      have h := number16_any (some ⟨b, off + 23, none⟩) 4 (c - 23) W (((l.take 60).drop 23).take 4) (by rw [List.length_take, List.length_drop, HQ.out]; rfl) (hp.up hW) (bytes_take (bytes_drop HYQ.out 23) 4) (by omega) (by omega)
      rw [hv4, ho23] at h
      exact h
    rw [hv0, hv1, hv2, hv3, hv4] at HSO
    clear hv0 hv1 hv2 hv3 hv4
    have hB0 : Below wz.heap.size wz wz.drew.drew := (Below.refl _ _).drew.drew
    have hB1 : Below wz.heap.size wz (wz.drew.drew.alloc (.cells #[.int .i64 0, .int .i64 0, .int .i64 0, .int .i64 0, .int .i64 0] 26)) := hB0.alloc (Nat.le_refl _) _
    have j8 : (8 : Int) ≤ (c : Int) := by omega
    have m8 : ¬ (c = 8) := by omega
    have j14 : (14 : Int) ≤ (c : Int) := by omega
    have m14 : ¬ (c = 14) := by omega
    have j18 : (18 : Int) ≤ (c : Int) := by omega
    have m18 : ¬ (c = 18) := by omega
    have j19 : (19 : Int) ≤ (c : Int) := by omega
    have m19 : ¬ (c = 19) := by omega
    have j23 : (23 : Int) ≤ (c : Int) := by omega
    have m23 : ¬ (c = 23) := by omega
    have j27 : (27 : Int) ≤ (c : Int) := by omega
    have m27 : ¬ (c = 27) := by omega
    go_cut [4] (fun p wx => p = .pointer (some ⟨w.heap.size + 1, 0, none⟩) ∧ wx = (wz.alloc (.cells #[.int .i64 v0, .int .i64 v1, .int .i64 v2, .int .i64 v3, .int .i64 v4] 26)).drew.drew)
    case first =>
      go_region_law (first | (go_simp; go_at_call_of 48 o8; refine (hd0 _ ?_).mono ?_; first | exact hB0 | exact hB1; rintro e w9 ⟨rfl, rfl⟩) | (go_simp; go_at_call_of 48 o14; refine (hd1 _ ?_).mono ?_; first | exact hB0 | exact hB1; rintro e w9 ⟨rfl, rfl⟩) | (go_simp; go_at_call_of 48 o18; refine (hd2 _ ?_).mono ?_; first | exact hB0 | exact hB1; rintro e w9 ⟨rfl, rfl⟩) | (go_simp; go_at_call_of 48 o19; refine (hd3 _ ?_).mono ?_; first | exact hB0 | exact hB1; rintro e w9 ⟨rfl, rfl⟩) | (go_simp; go_at_call_of 48 o23; refine (hd4 _ ?_).mono ?_; first | exact hB0 | exact hB1; rintro e w9 ⟨rfl, rfl⟩))
      all_goals
        go_wp2_with fail
        go_meet
        exact ⟨rfl, rfl⟩
    case rest =>
      obtain ⟨rfl, rfl⟩ := hcut
      clear hd0 hd1 hd2 hd3 hd4 hB0 hB1 j8 m8 j14 m14 j18 m18 j19 m19 j23 m23 j27 m27
      have hal2 : Below wz.heap.size wz (wz.alloc (.cells #[.int .i64 v0, .int .i64 v1, .int .i64 v2, .int .i64 v3, .int .i64 v4] 26)).drew.drew := ((Below.refl wz.heap.size wz).alloc (Nat.le_refl _) _).drew.drew
      have hnew : (wz.alloc (.cells #[.int .i64 v0, .int .i64 v1, .int .i64 v2, .int .i64 v3, .int .i64 v4] 26)).drew.drew.heap[w.heap.size + 1]? = some (.cells #[.int .i64 v0, .int .i64 v1, .int .i64 v2, .int .i64 v3, .int .i64 v4] 26 (0, 0)) := by rw [← hsz]; exact heap_alloc_new wz _
      have hsz2 : (wz.alloc (.cells #[.int .i64 v0, .int .i64 v1, .int .i64 v2, .int .i64 v3, .int .i64 v4] 26)).drew.drew.heap.size = w.heap.size + 2 := by show (wz.alloc (.cells #[.int .i64 v0, .int .i64 v1, .int .i64 v2, .int .i64 v3, .int .i64 v4] 26)).heap.size = _; simp; omega
      generalize (wz.alloc (.cells #[.int .i64 v0, .int .i64 v1, .int .i64 v2, .int .i64 v3, .int .i64 v4] 26)).drew.drew = w2 at *
      have HV := Lib.hid hnew
      have HR2 := Lib.hid ((hal2.block w.heap.size (by omega)).trans HCz.out)
      have HB2 := Lib.hid (HBz.out.trans (hal2.mono (by omega)))
      have HRL2 : Hid (RdB w2 w2.heap.size (some ⟨b, off, none⟩) l) := Lib.hid ((HRL.out.up HBz.out).up hal2)
      have g0 : w2.cell? ⟨w.heap.size + 1, 0, none⟩ = some (.int .i64 v0) := cell_of_row _ _ 0 _ 26 (0, 0) hnew
      have g1 : w2.cell? ⟨w.heap.size + 1, 1, none⟩ = some (.int .i64 v1) := cell_of_row _ _ 1 _ 26 (0, 0) hnew
      have g2 : w2.cell? ⟨w.heap.size + 1, 2, none⟩ = some (.int .i64 v2) := cell_of_row _ _ 2 _ 26 (0, 0) hnew
      have g3 : w2.cell? ⟨w.heap.size + 1, 3, none⟩ = some (.int .i64 v3) := cell_of_row _ _ 3 _ 26 (0, 0) hnew
      have g4 : w2.cell? ⟨w.heap.size + 1, 4, none⟩ = some (.int .i64 v4) := cell_of_row _ _ 4 _ 26 (0, 0) hnew
      have HFI := Lib.hid (formS_iff l HL.out HYL.out HSUM.out)
      rw [HSO.out] at HFI
      clear hnew hal2
      by_cases hok : okS ⟨v0, v1, v2, v3, v4⟩
      · have hpk := RefPackS_yes ⟨v0, v1, v2, v3, v4⟩ w2 hok
        unfold Re.Sup.cells at hpk
        simp only at hpk
        go_wp2_with fail
        refine hpk.mono ?_
        rintro e w3 ⟨⟨ga, ca, rfl, hO⟩, hb⟩
        have HO3 := Lib.hid hO
        have hcap : 64 ≤ ca := by
          obtain ⟨g', _, _, _, h1, _⟩ := hO.form (by omega)
          exact h1
        have HB3 := Lib.hid (HB2.out.trans (hb.mono (by omega)))
        have HR3 := Lib.hid ((hb.block w.heap.size (by omega)).trans HR2.out)
        have HV3 := Lib.hid ((hb.block (w.heap.size + 1) (by omega)).trans HV.out)
        have HRL3 := Lib.hid (HRL2.out.up hb)
        have hs3 := hb.size
        clear hO hb hpk g0 g1 g2 g3 g4
        obtain ⟨z, hz⟩ : ∃ z, decide (packS ⟨v0, v1, v2, v3, v4⟩ = l) = z := ⟨_, rfl⟩
        have hsm := Re.Same_any (some ⟨ga, 0, none⟩) 64 ca (some ⟨b, off, none⟩) 64 c w3 (packS ⟨v0, v1, v2, v3, v4⟩) l (Re.packS_length _) HL.out HO3.out.rd HRL3.out (by omega) (by omega) z hz
        go_wp2_with fail
        refine hsm.mono ?_
        rintro e w4 ⟨rfl, hb⟩
        have hx := (hb.block w.heap.size (by omega)).trans HR3.out
        have hv := (hb.block (w.heap.size + 1) (by omega)).trans HV3.out
        have HB4 := Lib.hid (HB3.out.trans (hb.mono (by omega)))
        have g0 : w4.cell? ⟨w.heap.size + 1, 0, none⟩ = some (.int .i64 v0) := cell_of_row _ _ 0 _ 26 (0, 0) hv
        have g1 : w4.cell? ⟨w.heap.size + 1, 1, none⟩ = some (.int .i64 v1) := cell_of_row _ _ 1 _ 26 (0, 0) hv
        have g2 : w4.cell? ⟨w.heap.size + 1, 2, none⟩ = some (.int .i64 v2) := cell_of_row _ _ 2 _ 26 (0, 0) hv
        have g3 : w4.cell? ⟨w.heap.size + 1, 3, none⟩ = some (.int .i64 v3) := cell_of_row _ _ 3 _ 26 (0, 0) hv
        have g4 : w4.cell? ⟨w.heap.size + 1, 4, none⟩ = some (.int .i64 v4) := cell_of_row _ _ 4 _ 26 (0, 0) hv
        have e0 : w4.cell? ⟨w.heap.size, 0, none⟩ = some (.int .i64 0) := cell_of_row _ _ 0 _ 26 (0, 0) hx
        have e1 : w4.cell? ⟨w.heap.size, 1, none⟩ = some (.int .i64 0) := cell_of_row _ _ 1 _ 26 (0, 0) hx
        have e2 : w4.cell? ⟨w.heap.size, 2, none⟩ = some (.int .i64 0) := cell_of_row _ _ 2 _ 26 (0, 0) hx
        have e3 : w4.cell? ⟨w.heap.size, 3, none⟩ = some (.int .i64 0) := cell_of_row _ _ 3 _ 26 (0, 0) hx
        have e4 : w4.cell? ⟨w.heap.size, 4, none⟩ = some (.int .i64 0) := cell_of_row _ _ 4 _ 26 (0, 0) hx
        have f0 : w4.frozen? ⟨w.heap.size, 0, none⟩ = false := frozen_of_row _ _ 0 _ _ hx
        have f1 : w4.frozen? ⟨w.heap.size, 1, none⟩ = false := frozen_of_row _ _ 1 _ _ hx
        have f2 : w4.frozen? ⟨w.heap.size, 2, none⟩ = false := frozen_of_row _ _ 2 _ _ hx
        have f3 : w4.frozen? ⟨w.heap.size, 3, none⟩ = false := frozen_of_row _ _ 3 _ _ hx
        have f4 : w4.frozen? ⟨w.heap.size, 4, none⟩ = false := frozen_of_row _ _ 4 _ _ hx
        clear hb hsm hx hv
        cases z with
        | true =>
          have E4 : Hid (res = (⟨v0, v1, v2, v3, v4⟩, 0)) := Lib.hid (by rw [E.out, if_pos (HFI.out.2 ⟨hok, of_decide_eq_true hz⟩), HSO.out])
          clear hz
          go_wp2_with fail
          rw [E4.out]
          refine bodyPost_ret (v := .tuple #[.agg #[.int .i64 v0, .int .i64 v1, .int .i64 v2, .int .i64 v3, .int .i64 v4], .int .i64 0]) (by simp [results, Tryz.results29, go_sem, e0, e1, e2, e3, e4]) rfl ⟨rfl, ?_⟩
          first
            | exact ((((HB4.out.setCell (Nat.le_refl _) _).setCell (Nat.le_refl _) _).setCell (Nat.le_refl _) _).setCell (Nat.le_refl _) _).setCell (Nat.le_refl _) _
            | exact belowDrewN (((((HB4.out.setCell (Nat.le_refl _) _).setCell (Nat.le_refl _) _).setCell (Nat.le_refl _) _).setCell (Nat.le_refl _) _).setCell (Nat.le_refl _) _) 1
        | false =>
          have E4 : Hid (res = (sup0, 4)) := Lib.hid (by rw [E.out, if_neg (fun h => (of_decide_eq_false hz) (HFI.out.1 h).2)])
          clear hz g0 g1 g2 g3 g4
          go_wp2_with fail
          rw [E4.out]
          refine bodyPost_ret (v := .tuple #[.agg #[.int .i64 0, .int .i64 0, .int .i64 0, .int .i64 0, .int .i64 0], .int .i64 4]) (by simp [results, Tryz.results29, go_sem, e0, e1, e2, e3, e4]) rfl ⟨rfl, ?_⟩
          first
            | exact ((((HB4.out.setCell (Nat.le_refl _) _).setCell (Nat.le_refl _) _).setCell (Nat.le_refl _) _).setCell (Nat.le_refl _) _).setCell (Nat.le_refl _) _
            | exact belowDrewN (((((HB4.out.setCell (Nat.le_refl _) _).setCell (Nat.le_refl _) _).setCell (Nat.le_refl _) _).setCell (Nat.le_refl _) _).setCell (Nat.le_refl _) _) 1
      · have hpk := RefPackS_no ⟨v0, v1, v2, v3, v4⟩ w2 hok
        unfold Re.Sup.cells at hpk
        simp only at hpk
        have E4 : Hid (res = (sup0, 4)) := Lib.hid (by rw [E.out, if_neg (fun h => hok (HFI.out.1 h).1)])
        go_wp2_with fail
        refine hpk.mono ?_
        rintro e w4 ⟨rfl, hb⟩
        have hx := (hb.block w.heap.size (by omega)).trans HR2.out
        have HB4 := Lib.hid (HB2.out.trans (hb.mono (by omega)))
        have e0 : w4.cell? ⟨w.heap.size, 0, none⟩ = some (.int .i64 0) := cell_of_row _ _ 0 _ 26 (0, 0) hx
        have e1 : w4.cell? ⟨w.heap.size, 1, none⟩ = some (.int .i64 0) := cell_of_row _ _ 1 _ 26 (0, 0) hx
        have e2 : w4.cell? ⟨w.heap.size, 2, none⟩ = some (.int .i64 0) := cell_of_row _ _ 2 _ 26 (0, 0) hx
        have e3 : w4.cell? ⟨w.heap.size, 3, none⟩ = some (.int .i64 0) := cell_of_row _ _ 3 _ 26 (0, 0) hx
        have e4 : w4.cell? ⟨w.heap.size, 4, none⟩ = some (.int .i64 0) := cell_of_row _ _ 4 _ 26 (0, 0) hx
        have f0 : w4.frozen? ⟨w.heap.size, 0, none⟩ = false := frozen_of_row _ _ 0 _ _ hx
        have f1 : w4.frozen? ⟨w.heap.size, 1, none⟩ = false := frozen_of_row _ _ 1 _ _ hx
        have f2 : w4.frozen? ⟨w.heap.size, 2, none⟩ = false := frozen_of_row _ _ 2 _ _ hx
        have f3 : w4.frozen? ⟨w.heap.size, 3, none⟩ = false := frozen_of_row _ _ 3 _ _ hx
        have f4 : w4.frozen? ⟨w.heap.size, 4, none⟩ = false := frozen_of_row _ _ 4 _ _ hx
        clear hb hpk g0 g1 g2 g3 g4 hx
        go_wp2_with fail
        rw [E4.out]
        refine bodyPost_ret (v := .tuple #[.agg #[.int .i64 0, .int .i64 0, .int .i64 0, .int .i64 0, .int .i64 0], .int .i64 4]) (by simp [results, Tryz.results29, go_sem, e0, e1, e2, e3, e4]) rfl ⟨rfl, ?_⟩
        first
          | exact ((((HB4.out.setCell (Nat.le_refl _) _).setCell (Nat.le_refl _) _).setCell (Nat.le_refl _) _).setCell (Nat.le_refl _) _).setCell (Nat.le_refl _) _
          | exact belowDrewN (((((HB4.out.setCell (Nat.le_refl _) _).setCell (Nat.le_refl _) _).setCell (Nat.le_refl _) _).setCell (Nat.le_refl _) _).setCell (Nat.le_refl _) _) 1
  · have hne : (x != (crcOf (l.take 60) : Int)) = true := by simpa using hxy
    have E : Hid (res = (sup0, 5)) := Lib.hid (by rw [HE.out, if_pos hxy])
    have e0 : wz.cell? ⟨w.heap.size, 0, none⟩ = some (.int .i64 0) := cell_of_row _ _ 0 _ 26 (0, 0) HCz.out
    have e1 : wz.cell? ⟨w.heap.size, 1, none⟩ = some (.int .i64 0) := cell_of_row _ _ 1 _ 26 (0, 0) HCz.out
    have e2 : wz.cell? ⟨w.heap.size, 2, none⟩ = some (.int .i64 0) := cell_of_row _ _ 2 _ 26 (0, 0) HCz.out
    have e3 : wz.cell? ⟨w.heap.size, 3, none⟩ = some (.int .i64 0) := cell_of_row _ _ 3 _ 26 (0, 0) HCz.out
    have e4 : wz.cell? ⟨w.heap.size, 4, none⟩ = some (.int .i64 0) := cell_of_row _ _ 4 _ 26 (0, 0) HCz.out
    have f0 := frozen_of_row _ _ 0 _ _ HCz.out; have f1 := frozen_of_row _ _ 1 _ _ HCz.out; have f2 := frozen_of_row _ _ 2 _ _ HCz.out; have f3 := frozen_of_row _ _ 3 _ _ HCz.out; have f4 := frozen_of_row _ _ 4 _ _ HCz.out
    clear HE
    go_wp2_with fail
    rw [E.out]
    refine bodyPost_ret (v := .tuple #[.agg #[.int .i64 0, .int .i64 0, .int .i64 0, .int .i64 0, .int .i64 0], .int .i64 5]) (by simp [results, Tryz.results29, go_sem, e0, e1, e2, e3, e4]) rfl ⟨rfl, ?_⟩
    exact belowDrewN (((((HBz.out.setCell (Nat.le_refl _) _).setCell (Nat.le_refl _) _).setCell (Nat.le_refl _) _).setCell (Nat.le_refl _) _).setCell (Nat.le_refl _) _) 1
end Go.Proofs.YtblibmalommdkaaGreat
