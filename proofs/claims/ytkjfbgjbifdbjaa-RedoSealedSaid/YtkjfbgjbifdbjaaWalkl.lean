/-
  What the reference's OpenHead answers.
-/
import Derived.Test.YtkjfbgjbifdbjaaWalkk
import Derived.Test.YtkjfbgjbifdbjaaHeads
import Derived.Test.YtkjfbgjbifdbjaaDrawb
import Derived.Deep.RegionWith
import Derived.BigRegion
namespace Go.Proofs.Ytkjfbgjbifdbjaa
open Go.RowKit
theorem RefOpen_short (A : Option Addr) (n c : Nat) (w : World) (l : List Int) (hl : l.length = n) (hn : n ≠ 64) (_hm : n ≤ 9223372036854775807) :
    Calls Try.prog 13 #[.slice A n c] w fun e w' => e = .returned (.tuple #[(openP l).1.val, .int .i64 (openP l).2]) ∧ Below w.heap.size w w' := by
  have E : openP l = (hd0, 3) := by unfold openP; rw [if_pos (by omega)]
  have HE := Lib.hid E
  clear E
  have h64 : ((n : Int) != 64) = true := by simp; omega
  have h64' : ((n : Int) == 64) = false := by simp; omega
  go_enter Try.func13, Try.ntmps13
  go_wp2_with fail
  rw [HE.out]
  refine bodyPost_ret (v := .tuple #[.agg #[.int .i64 0, .bool false, .int .i64 0, .int .u32 0], .int .i64 3]) (by simp [results, Try.results13, go_sem]) rfl ⟨rfl, ?_⟩
  exact (Below.refl _ _).alloc (Nat.le_refl _) _
set_option maxRecDepth 20000 in
set_option maxHeartbeats 4000000 in
theorem RefOpen_any (b off c : Nat) (w : World) (l : List Int) (hl : l.length = 64) (hr : RdB w w.heap.size (some ⟨b, off, none⟩) l) (hy : Bytes l) (hc0 : 64 ≤ c) (hc : c ≤ 9223372036854775807) :
    Calls Try.prog 13 #[.slice (some ⟨b, off, none⟩) 64 c] w fun e w' => e = .returned (.tuple #[(openP l).1.val, .int .i64 (openP l).2]) ∧ Below w.heap.size w w' := by
  have hq : (l.take 60).length = 60 := by rw [List.length_take, hl]; rfl
  have hyq := bytes_take hy 60
  have hrq : RdB w w.heap.size (some ⟨b, off, none⟩) (l.take 60) := by simpa using hr.piece 0 60
  have hrs : RdB w w.heap.size (some ⟨b, off + 60, none⟩) (l.drop 60) := by
    have := hr.piece 60 4
    rwa [List.take_of_length_le (by rw [List.length_drop, hl]; omega)] at this
  have HQ := Lib.hid hq; have HYQ := Lib.hid hyq; have HRQ := Lib.hid hrq; have HRS := Lib.hid hrs
  have HYS := Lib.hid (bytes_drop hy 60)
  have HLS : Hid ((l.drop 60).length = 4) := Lib.hid (by rw [List.length_drop, hl])
  have HR := Lib.hid hr
  have hcr := crcOf_lt hyq
  have HFI := Lib.hid (form_iff l hl hy)
  have hE : openP l = if leVal (l.drop 60) ≠ (crcOf (l.take 60) : Int) then (hd0, 5) else if formB (l.take 60) = true then (hdOf (l.take 60), 0) else (hd0, 4) := by
    unfold openP; rw [if_neg (by omega)]
  have HE := Lib.hid hE
  have HL := Lib.hid hl; have HY := Lib.hid hy
  clear hq hyq hrq hrs hl hr hy hE
  have hwr : IntKind.i64.wrap (crcOf (l.take 60) : Int) = crcOf (l.take 60) := by rw [IntKind.wrap_i64]; omega
  go_enter Try.func13, Try.ntmps13
  go_wp2_with fail
  generalize hz : w.alloc (.cells #[.int .i64 0, .bool false, .int .i64 0, .int .u32 0] 24) = wz at *
  have HBz : Hid (Below w.heap.size w wz) := Lib.hid (by rw [← hz]; exact (Below.refl _ _).alloc (Nat.le_refl _) _)
  have HSz : Hid (wz.heap.size = w.heap.size + 1) := Lib.hid (by rw [← hz]; simp)
  have hcz : ∀ j : Nat, wz.cell? ⟨w.heap.size, j, none⟩ = (#[.int .i64 0, .bool false, .int .i64 0, .int .u32 0] : Array Value)[j]? := fun j => by rw [← hz, cell_new]
  have hfz : ∀ j : Nat, wz.frozen? ⟨w.heap.size, j, none⟩ = false := fun j => by
    have hh := heap_alloc_new w (.cells #[.int .i64 0, .bool false, .int .i64 0, .int .u32 0] 24)
    rw [hz] at hh
    unfold World.frozen?
    rw [hh]; simp
  have HCz := Lib.hid hcz; have HFz := Lib.hid hfz
  clear hz hcz hfz
  go_quiet ((first
    | (go_at_call 28; exact Calls.quiet_of_same ((value_any _ 4 _ _ (l.drop 60) HLS.out ((HRS.out.up HBz.out).drewN _) HYS.out (by omega) (by omega)).mono fun _ _ h => ⟨h.1, h.2.symm⟩))
    | (go_at_call 16; exact Calls.quiet_of_same ((crcRef_any _ 60 _ _ (l.take 60) HQ.out ((HRQ.out.up HBz.out).drewN _) HYQ.out (by omega)).mono fun _ _ h => ⟨h.1, h.2.symm⟩))))
  have HBq : Hid (Below w.heap.size w (wz.drewN nq)) := Lib.hid (belowDrewN HBz.out _)
  have HSq : Hid ((wz.drewN nq).heap.size = w.heap.size + 1) := Lib.hid HSz.out
  have HCq : Hid (∀ j : Nat, (wz.drewN nq).cell? ⟨w.heap.size, j, none⟩ = (#[.int .i64 0, .bool false, .int .i64 0, .int .u32 0] : Array Value)[j]?) := Lib.hid HCz.out
  have HFq : Hid (∀ j : Nat, (wz.drewN nq).frozen? ⟨w.heap.size, j, none⟩ = false) := Lib.hid HFz.out
  clear HBz HSz HCz HFz
  generalize wz.drewN nq = wq at *
  by_cases hxy : leVal (l.drop 60) = (crcOf (l.take 60) : Int)
  · have E : Hid (openP l = if formB (l.take 60) = true then (hdOf (l.take 60), 0) else (hd0, 4)) := Lib.hid (by rw [HE.out, if_neg (by simpa using hxy)])
    have HF := Lib.hid (HFI.out hxy)
    clear HE HFI
    obtain ⟨x12, hx12⟩ := get_some l 12 (by rw [HL.out]; decide)
    obtain ⟨b', off', hbo, hblt, hc12⟩ := HR.out.up HBq.out 12 x12 hx12
    cases hbo
    have hw1 : leVal ((l.drop 12).take 1) = x12 := by
      have h1 : (l.drop 12).take 1 = [x12] := by
        obtain ⟨hlt, he⟩ := List.getElem?_eq_some_iff.1 hx12
        rw [List.drop_eq_getElem_cons hlt, he]; rfl
      rw [h1]; simp [leVal]
    have HW1 := Lib.hid hw1
    have HP : Hid (∀ (k : Nat) (W : World), Below wq.heap.size wq W → RdB W W.heap.size (some ⟨b, off + k, none⟩) ((l.drop k).take 4)) := Lib.hid (fun k W hb => ((HR.out.up HBq.out).piece k 4).up hb)
    have HY4 : Hid (∀ k : Nat, Bytes ((l.drop k).take 4)) := Lib.hid (fun k => bytes_take (bytes_drop HY.out k) 4)
    have HL4 : Hid (∀ k : Nat, k + 4 ≤ 64 → ((l.drop k).take 4).length = 4) := Lib.hid (fun k hk => by rw [List.length_take, List.length_drop, HL.out]; omega)
    have hb12 := HY.out x12 (List.mem_of_getElem? hx12)
    clear hw1 hx12
    go_wp2_with fail
    have HXY := Lib.hid hxy
    clear hxy
    go_cut [4] (fun v wx => v = .pointer (some ⟨wq.heap.size, 0, none⟩) ∧ Below wq.heap.size wq wx ∧ wx.cell? ⟨wq.heap.size, 0, none⟩ = some (.int .i64 (leVal ((l.drop 8).take 4))) ∧ wx.cell? ⟨wq.heap.size, 1, none⟩ = some (.bool (x12 == 1)) ∧ wx.cell? ⟨wq.heap.size, 2, none⟩ = some (.int .i64 (leVal ((l.drop 13).take 4))) ∧ wx.cell? ⟨wq.heap.size, 3, none⟩ = some (.int .u32 (leVal ((l.drop 17).take 4))))
    case first =>
      have HC1 : Hid (∀ W, Below wq.heap.size wq W → Calls Try.prog 28 #[.slice (some ⟨b, off + 8, none⟩) 4 (c - 8)] W fun e w' => e = .returned (.int .i64 (leVal ((l.drop 8).take 4))) ∧ W = w') := Lib.hid (fun W hb => value_any _ 4 _ W _ (HL4.out 8 (by omega)) (HP.out 8 _ hb) (HY4.out 8) (by omega) (by omega))
      have HC2 : Hid (∀ W, Below wq.heap.size wq W → Calls Try.prog 28 #[.slice (some ⟨b, off + 13, none⟩) 4 (c - 13)] W fun e w' => e = .returned (.int .i64 (leVal ((l.drop 13).take 4))) ∧ W = w') := Lib.hid (fun W hb => value_any _ 4 _ W _ (HL4.out 13 (by omega)) (HP.out 13 _ hb) (HY4.out 13) (by omega) (by omega))
      have HC3 : Hid (∀ W, Below wq.heap.size wq W → Calls Try.prog 28 #[.slice (some ⟨b, off + 17, none⟩) 4 (c - 17)] W fun e w' => e = .returned (.int .i64 (leVal ((l.drop 17).take 4))) ∧ W = w') := Lib.hid (fun W hb => value_any _ 4 _ W _ (HL4.out 17 (by omega)) (HP.out 17 _ hb) (HY4.out 17) (by omega) (by omega))
      have HC12 : Hid (∀ W, Below wq.heap.size wq W → W.cell? ⟨b, off + 12, none⟩ = some (.int .u8 x12)) := Lib.hid (fun W hb => (hb.cell (p := ⟨b, off + 12, none⟩) hblt).trans hc12)
      have HWd : Hid (∀ W, (W = wq.drew ∨ W = wq.drew.alloc (.cells #[.int .i64 0, .bool false, .int .i64 0, .int .u32 0] 24)) → Below wq.heap.size wq W) := Lib.hid (fun W h => by
        rcases h with rfl | rfl
        · exact belowDrewN (Below.refl _ _) 1
        · exact (belowDrewN (Below.refl _ _) 1).alloc (Nat.le_refl _) _)
      have hv4 := leVal_lt4 _ (HY4.out 17) (by rw [HL4.out 17 (by omega)]; exact Nat.le_refl _)
      obtain ⟨hv40, hv41⟩ := hv4
      generalize leVal ((l.drop 8).take 4) = v1 at *
      generalize leVal ((l.drop 13).take 4) = v3 at *
      generalize leVal ((l.drop 17).take 4) = v4 at *
      refine wp_region_any (by kernel_rfl) ?_
      change wpAny _ _ _ _ _ _ _ (World.drew _)
      have HFin : Hid (Below wq.heap.size wq ((((((wq.drew.alloc (.cells #[.int .i64 0, .bool false, .int .i64 0, .int .u32 0] 24)).setCell ⟨wq.heap.size, 0, none⟩ (.int .i64 v1)).setCell ⟨wq.heap.size, 1, none⟩ (.bool (x12 == 1))).setCell ⟨wq.heap.size, 2, none⟩ (.int .i64 v3)).setCell ⟨wq.heap.size, 3, none⟩ (.int .u32 v4)))) := Lib.hid (((((((belowDrewN (Below.refl _ _) 1).alloc (Nat.le_refl _) _)).setCell (Nat.le_refl _) _).setCell (Nat.le_refl _) _).setCell (Nat.le_refl _) _).setCell (Nat.le_refl _) _)
      refine wpAny_invC (fun L a w' => ∃ T : Nat → Value, a = ⟨#[.slice (some ⟨b, off, none⟩) 64 c, undef, .pointer (some ⟨w.heap.size, 0, none⟩), .int .i64 0, T 15, undef, undef, .slice (some ⟨b, off, none⟩) 64 c, .int .i64 64, .bool false, undef, .slice (some ⟨b, off, none⟩) 64 c, .slice (some ⟨b, off + 60, none⟩) 4 (c - 60), .int .i64 (leVal (l.drop 60)), .slice (some ⟨b, off, none⟩) 64 c, .slice (some ⟨b, off, none⟩) 60 c, .int .u32 (crcOf (l.take 60) : Int), .int .i64 (crcOf (l.take 60) : Int), .bool (leVal (l.drop 60) != (crcOf (l.take 60) : Int)), undef, T 0, T 1, T 2, T 3, T 4, T 5, T 6, T 7, T 8, T 9, T 10, T 11, T 12, T 13, T 14, undef, undef, undef, undef, undef, undef, undef, undef, undef, undef, undef, undef, undef, undef, undef], []⟩ ∧ RW wq.drew (.cells #[.int .i64 0, .bool false, .int .i64 0, .int .u32 0] 24) (fun i => match i with | 0 => .slice (some ⟨b, off, none⟩) 64 c | 1 => .slice (some ⟨b, off + 8, none⟩) 4 (c - 8) | 2 => .int .i64 v1 | 3 => .slice (some ⟨b, off, none⟩) 64 c | 4 => .pointer (some ⟨b, off + 12, none⟩) | 5 => .int .u8 x12 | 6 => .bool (x12 == 1) | 7 => .slice (some ⟨b, off, none⟩) 64 c | 8 => .slice (some ⟨b, off + 13, none⟩) 4 (c - 13) | 9 => .int .i64 v3 | 10 => .slice (some ⟨b, off, none⟩) 64 c | 11 => .slice (some ⟨b, off + 17, none⟩) 4 (c - 17) | 12 => .int .i64 v4 | 13 => .int .u32 v4 | 14 => .agg #[.int .i64 v1, .bool (x12 == 1), .int .i64 v3, .int .u32 v4] | 15 => .pointer (some ⟨wq.heap.size, 0, none⟩) | _ => undef) 15 (fun wx => Below wq.heap.size wq wx ∧ wx.cell? ⟨wq.heap.size, 0, none⟩ = some (.int .i64 v1) ∧ wx.cell? ⟨wq.heap.size, 1, none⟩ = some (.bool (x12 == 1)) ∧ wx.cell? ⟨wq.heap.size, 2, none⟩ = some (.int .i64 v3) ∧ wx.cell? ⟨wq.heap.size, 3, none⟩ = some (.int .u32 v4)) (Up L) T w') ?step ?done _ 17 _ _ rfl (by decide) ⟨fun _ => undef, rfl, ?init⟩
      case init =>
        have hno : ∀ j, ¬ Up (Array.replicate 17 false) j := fun j hj => by
          unfold Up at hj
          by_cases hlt : j < 17
          · simp [Array.getD_eq_getD_getElem?, hlt] at hj
          · simp [Array.getD_eq_getD_getElem?, hlt] at hj
        exact ⟨fun i _ hu => absurd hu (hno i), fun x => absurd x (hno _), fun _ => rfl, fun x => absurd x (hno _), fun x => absurd x (hno _)⟩
      case done =>
        intro L a w' hs hinv hr
        obtain ⟨T, rfl, hR⟩ := hinv
        have hall := up_all hs hr rfl (by kernel_rfl)
        have h16 := hR.w2 (hall 16 (by decide))
        have h15 := hR.val 15 (by decide) (hall 15 (by decide))
        have H15 : T 15 = .pointer (some ⟨wq.heap.size, 0, none⟩) := h15
        clear h15
        go_wp2_with fail
        go_meet
        exact ⟨H15, h16⟩
      case step =>
        intro L a w' i hs hcl hinv hr
        obtain ⟨T, rfl, hR⟩ := hinv
        have HCL := Lib.hid hcl
        clear hcl
        have hlt := ready_lt hr
        have hn : ¬ Up L i := by unfold Up; rw [ready_not hs hr]; decide
        replace hlt : i < 17 := hlt
        replace hs : L.size = 17 := hs
        have hi' : i < L.size := by omega
        rcases (show i = 0 ∨ i = 1 ∨ i = 2 ∨ i = 3 ∨ i = 4 ∨ i = 5 ∨ i = 6 ∨ i = 7 ∨ i = 8 ∨ i = 9 ∨ i = 10 ∨ i = 11 ∨ i = 12 ∨ i = 13 ∨ i = 14 ∨ i = 15 ∨ i = 16 by omega) with rfl | rfl | rfl | rfl | rfl | rfl | rfl | rfl | rfl | rfl | rfl | rfl | rfl | rfl | rfl | rfl | rfl
        · refine wpOp_step rfl (fun K hK => ?_)
          have HK := Lib.hid hK
          have HR := Lib.hid hR
          clear hK hR hr
          go_simp
          exact HK.out _ _ ⟨put_ T 0 (.slice (some ⟨b, off, none⟩) 64 c), by simp [put_, HXY.out], HR.out.same 0 _ hi' (by decide) hn rfl⟩
        · have d0 := ready_dep hr 0 (by kernel_rfl)
          have e0 : T 0 = .slice (some ⟨b, off, none⟩) 64 c := hR.val 0 (by decide) d0
          have hcc : ¬ (c = 8) := by omega
          have hbd : (12 : Int) ≤ (c : Int) := by omega
          refine wpOp_step rfl (fun K hK => ?_)
          have HK := Lib.hid hK
          have HR := Lib.hid hR
          clear hK hR hr d0
          go_simp
          exact HK.out _ _ ⟨put_ T 1 (.slice (some ⟨b, off + 8, none⟩) 4 (c - 8)), by simp [put_, HXY.out, e0], HR.out.same 1 _ hi' (by decide) hn rfl⟩
        · have d1 := ready_dep hr 1 (by kernel_rfl)
          have e1 : T 1 = .slice (some ⟨b, off + 8, none⟩) 4 (c - 8) := hR.val 1 (by decide) d1
          have HCk := HC1.out w' (HWd.out w' (hR.world 2 (by decide) hn))
          refine wpOp_step rfl (fun K hK => ?_)
          have HK := Lib.hid hK
          have HR := Lib.hid hR
          have HCC := Lib.hid HCk
          clear HCk
          clear hK hR hr d1
          go_simp
          refine HCC.out.mono ?_
          rintro e wv ⟨rfl, rfl⟩
          go_simp
          refine HK.out _ _ ?_
          exact ⟨put_ T 2 (.int .i64 v1), by simp [put_, HXY.out, e1], HR.out.same 2 _ hi' (by decide) hn rfl⟩
        · refine wpOp_step rfl (fun K hK => ?_)
          have HK := Lib.hid hK
          have HR := Lib.hid hR
          clear hK hR hr
          go_simp
          exact HK.out _ _ ⟨put_ T 3 (.slice (some ⟨b, off, none⟩) 64 c), by simp [put_, HXY.out], HR.out.same 3 _ hi' (by decide) hn rfl⟩
        · have d3 := ready_dep hr 3 (by kernel_rfl)
          have e3 : T 3 = .slice (some ⟨b, off, none⟩) 64 c := hR.val 3 (by decide) d3
          refine wpOp_step rfl (fun K hK => ?_)
          have HK := Lib.hid hK
          have HR := Lib.hid hR
          clear hK hR hr d3
          go_simp
          exact HK.out _ _ ⟨put_ T 4 (.pointer (some ⟨b, off + 12, none⟩)), by simp [put_, HXY.out, e3], HR.out.same 4 _ hi' (by decide) hn rfl⟩
        · have d4 := ready_dep hr 4 (by kernel_rfl)
          have e4 : T 4 = .pointer (some ⟨b, off + 12, none⟩) := hR.val 4 (by decide) d4
          have hc5 := HC12.out w' (HWd.out w' (hR.world 5 (by decide) hn))
          refine wpOp_step rfl (fun K hK => ?_)
          have HK := Lib.hid hK
          have HR := Lib.hid hR
          clear hK hR hr d4
          go_simp
          exact HK.out _ _ ⟨put_ T 5 (.int .u8 x12), by simp [put_, HXY.out, e4], HR.out.same 5 _ hi' (by decide) hn rfl⟩
        · have d5 := ready_dep hr 5 (by kernel_rfl)
          have e5 : T 5 = .int .u8 x12 := hR.val 5 (by decide) d5
          refine wpOp_step rfl (fun K hK => ?_)
          have HK := Lib.hid hK
          have HR := Lib.hid hR
          clear hK hR hr d5
          go_simp
          exact HK.out _ _ ⟨put_ T 6 (.bool (x12 == 1)), by simp [put_, HXY.out, e5], HR.out.same 6 _ hi' (by decide) hn rfl⟩
        · refine wpOp_step rfl (fun K hK => ?_)
          have HK := Lib.hid hK
          have HR := Lib.hid hR
          clear hK hR hr
          go_simp
          exact HK.out _ _ ⟨put_ T 7 (.slice (some ⟨b, off, none⟩) 64 c), by simp [put_, HXY.out], HR.out.same 7 _ hi' (by decide) hn rfl⟩
        · have d7 := ready_dep hr 7 (by kernel_rfl)
          have e7 : T 7 = .slice (some ⟨b, off, none⟩) 64 c := hR.val 7 (by decide) d7
          have hcc : ¬ (c = 13) := by omega
          have hbd : (17 : Int) ≤ (c : Int) := by omega
          refine wpOp_step rfl (fun K hK => ?_)
          have HK := Lib.hid hK
          have HR := Lib.hid hR
          clear hK hR hr d7
          go_simp
          exact HK.out _ _ ⟨put_ T 8 (.slice (some ⟨b, off + 13, none⟩) 4 (c - 13)), by simp [put_, HXY.out, e7], HR.out.same 8 _ hi' (by decide) hn rfl⟩
        · have d8 := ready_dep hr 8 (by kernel_rfl)
          have e8 : T 8 = .slice (some ⟨b, off + 13, none⟩) 4 (c - 13) := hR.val 8 (by decide) d8
          have HCk := HC2.out w' (HWd.out w' (hR.world 9 (by decide) hn))
          refine wpOp_step rfl (fun K hK => ?_)
          have HK := Lib.hid hK
          have HR := Lib.hid hR
          have HCC := Lib.hid HCk
          clear HCk
          clear hK hR hr d8
          go_simp
          refine HCC.out.mono ?_
          rintro e wv ⟨rfl, rfl⟩
          go_simp
          refine HK.out _ _ ?_
          exact ⟨put_ T 9 (.int .i64 v3), by simp [put_, HXY.out, e8], HR.out.same 9 _ hi' (by decide) hn rfl⟩
        · refine wpOp_step rfl (fun K hK => ?_)
          have HK := Lib.hid hK
          have HR := Lib.hid hR
          clear hK hR hr
          go_simp
          exact HK.out _ _ ⟨put_ T 10 (.slice (some ⟨b, off, none⟩) 64 c), by simp [put_, HXY.out], HR.out.same 10 _ hi' (by decide) hn rfl⟩
        · have d10 := ready_dep hr 10 (by kernel_rfl)
          have e10 : T 10 = .slice (some ⟨b, off, none⟩) 64 c := hR.val 10 (by decide) d10
          have hcc : ¬ (c = 17) := by omega
          have hbd : (21 : Int) ≤ (c : Int) := by omega
          refine wpOp_step rfl (fun K hK => ?_)
          have HK := Lib.hid hK
          have HR := Lib.hid hR
          clear hK hR hr d10
          go_simp
          exact HK.out _ _ ⟨put_ T 11 (.slice (some ⟨b, off + 17, none⟩) 4 (c - 17)), by simp [put_, HXY.out, e10], HR.out.same 11 _ hi' (by decide) hn rfl⟩
        · have d11 := ready_dep hr 11 (by kernel_rfl)
          have e11 : T 11 = .slice (some ⟨b, off + 17, none⟩) 4 (c - 17) := hR.val 11 (by decide) d11
          have HCk := HC3.out w' (HWd.out w' (hR.world 12 (by decide) hn))
          refine wpOp_step rfl (fun K hK => ?_)
          have HK := Lib.hid hK
          have HR := Lib.hid hR
          have HCC := Lib.hid HCk
          clear HCk
          clear hK hR hr d11
          go_simp
          refine HCC.out.mono ?_
          rintro e wv ⟨rfl, rfl⟩
          go_simp
          refine HK.out _ _ ?_
          exact ⟨put_ T 12 (.int .i64 v4), by simp [put_, HXY.out, e11], HR.out.same 12 _ hi' (by decide) hn rfl⟩
        · have d12 := ready_dep hr 12 (by kernel_rfl)
          have e12 : T 12 = .int .i64 v4 := hR.val 12 (by decide) d12
          have hwv : IntKind.u32.wrap v4 = v4 := by rw [IntKind.wrap_u32]; omega
          refine wpOp_step rfl (fun K hK => ?_)
          have HK := Lib.hid hK
          have HR := Lib.hid hR
          clear hK hR hr d12
          go_simp
          exact HK.out _ _ ⟨put_ T 13 (.int .u32 v4), by simp [put_, HXY.out, e12], HR.out.same 13 _ hi' (by decide) hn rfl⟩
        · have d2 := ready_dep hr 2 (by kernel_rfl)
          have e2 : T 2 = .int .i64 v1 := hR.val 2 (by decide) d2
          have d6 := ready_dep hr 6 (by kernel_rfl)
          have e6 : T 6 = .bool (x12 == 1) := hR.val 6 (by decide) d6
          have d9 := ready_dep hr 9 (by kernel_rfl)
          have e9 : T 9 = .int .i64 v3 := hR.val 9 (by decide) d9
          have d13 := ready_dep hr 13 (by kernel_rfl)
          have e13 : T 13 = .int .u32 v4 := hR.val 13 (by decide) d13
          refine wpOp_step rfl (fun K hK => ?_)
          have HK := Lib.hid hK
          have HR := Lib.hid hR
          clear hK hR hr d2 d6 d9 d13
          go_simp
          exact HK.out _ _ ⟨put_ T 14 (.agg #[.int .i64 v1, .bool (x12 == 1), .int .i64 v3, .int .u32 v4]), by simp [put_, HXY.out, e2, e6, e9, e13], HR.out.same 14 _ hi' (by decide) hn rfl⟩
        · have hw0 := hR.w0 hn
          refine wpOp_step rfl (fun K hK => ?_)
          have HK := Lib.hid hK
          have HR := Lib.hid hR
          have HW0 := Lib.hid hw0
          have hsz : w'.heap.size = wq.heap.size := by rw [hw0]; rfl
          clear hK hR hr hw0
          go_simp
          exact HK.out _ _ ⟨put_ T 15 (.pointer (some ⟨wq.heap.size, 0, none⟩)), by simp [put_, HXY.out], HR.out.made _ hi' hn rfl⟩
        · have d14 := ready_dep hr 14 (by kernel_rfl)
          have d15 := ready_dep hr 15 (by kernel_rfl)
          have e14 : T 14 = .agg #[.int .i64 v1, .bool (x12 == 1), .int .i64 v3, .int .u32 v4] := hR.val 14 (by decide) d14
          have e15 : T 15 = .pointer (some ⟨wq.heap.size, 0, none⟩) := hR.val 15 (by decide) d15
          have hw1 := hR.w1 d15 hn
          have hall : ∀ j, j < 16 → Up L j := fun j hj => by
            have up : ∀ i j, waits .any _ i j = true → Up L i → Up L j := fun i j hw hu => HCL.out i j hu hw
            have u2 := up 14 2 (by kernel_rfl) d14; have u6 := up 14 6 (by kernel_rfl) d14; have u9 := up 14 9 (by kernel_rfl) d14; have u13 := up 14 13 (by kernel_rfl) d14
            have u1 := up 2 1 (by kernel_rfl) u2; have u0 := up 1 0 (by kernel_rfl) u1; have u5 := up 6 5 (by kernel_rfl) u6; have u4 := up 5 4 (by kernel_rfl) u5; have u3 := up 4 3 (by kernel_rfl) u4
            have u8 := up 9 8 (by kernel_rfl) u9; have u7 := up 8 7 (by kernel_rfl) u8; have u12 := up 13 12 (by kernel_rfl) u13; have u11 := up 12 11 (by kernel_rfl) u12; have u10 := up 11 10 (by kernel_rfl) u11
            rcases (show j = 0 ∨ j = 1 ∨ j = 2 ∨ j = 3 ∨ j = 4 ∨ j = 5 ∨ j = 6 ∨ j = 7 ∨ j = 8 ∨ j = 9 ∨ j = 10 ∨ j = 11 ∨ j = 12 ∨ j = 13 ∨ j = 14 ∨ j = 15 by omega) with rfl | rfl | rfl | rfl | rfl | rfl | rfl | rfl | rfl | rfl | rfl | rfl | rfl | rfl | rfl | rfl <;> assumption
          have hF := HFin.out
          rw [← hw1] at hF
          have hcz : ∀ j : Nat, w'.cell? ⟨wq.heap.size, j, none⟩ = (#[.int .i64 0, .bool false, .int .i64 0, .int .u32 0] : Array Value)[j]? ∧ w'.frozen? ⟨wq.heap.size, j, none⟩ = false := fun j => by
            have hh := heap_alloc_new wq.drew (.cells #[.int .i64 0, .bool false, .int .i64 0, .int .u32 0] 24)
            rw [← hw1] at hh
            exact ⟨cell_of_row _ _ _ _ _ _ hh, by unfold World.frozen?; rw [show w'.heap[(⟨wq.heap.size, j, none⟩ : Addr).block]? = _ from hh]; simp⟩
          have e0 := (hcz 0).1; have e1 := (hcz 1).1; have e2 := (hcz 2).1; have e3 := (hcz 3).1
          have f0 := (hcz 0).2; have f1 := (hcz 1).2; have f2 := (hcz 2).2; have f3 := (hcz 3).2
          simp at e0 e1 e2 e3
          refine wpOp_step rfl (fun K hK => ?_)
          have HK := Lib.hid hK
          have HR := Lib.hid hR
          have HF6 := Lib.hid hF
          have HS4 := Lib.hid (four_set (.int .i64 v1) (.bool (x12 == 1)) (.int .i64 v3) (.int .u32 v4) e0 e1 e2 e3)
          have HALL := Lib.hid hall
          clear hK hR hr hw1 hall hF d14 d15 hcz
          go_simp
          exact HK.out _ _ ⟨T, by simp [e14, e15, HXY.out], HR.out.fin _ hi' HALL.out ⟨HF6.out, HS4.out⟩⟩
    case rest =>
    obtain ⟨rfl, hbx, c0, c1, c2, c3⟩ := hcut
    have HBX0 := Lib.hid hbx
    have hpiece : ∀ k : Nat, k + 4 ≤ 60 → ((l.take 60).drop k).take 4 = (l.drop k).take 4 := fun k hk => by rw [List.drop_take, List.take_take, Nat.min_eq_left (by omega)]
    have hpiece1 : ((l.take 60).drop 12).take 1 = (l.drop 12).take 1 := by rw [List.drop_take, List.take_take, Nat.min_eq_left (by omega)]
    have hhd : hdOf (l.take 60) = ⟨leVal ((l.drop 8).take 4), x12 == 1, leVal ((l.drop 13).take 4), leVal ((l.drop 17).take 4)⟩ := by
      unfold hdOf wv rv_ bv sv
      rw [hpiece 8 (by omega), hpiece 13 (by omega), hpiece 17 (by omega), hpiece1, HW1.out]
      congr 1
    have HHD := Lib.hid hhd
    have hv1 := leVal_lt4 _ (HY4.out 8) (by rw [HL4.out 8 (by omega)]; exact Nat.le_refl _)
    have hv3 := leVal_lt4 _ (HY4.out 13) (by rw [HL4.out 13 (by omega)]; exact Nat.le_refl _)
    have hv4 := leVal_lt4 _ (HY4.out 17) (by rw [HL4.out 17 (by omega)]; exact Nat.le_refl _)
    clear hhd hpiece hpiece1 hbx
    rw [HHD.out] at HF E
    clear HHD
    generalize leVal ((l.drop 8).take 4) = v1 at *
    generalize leVal ((l.drop 13).take 4) = v3 at *
    generalize leVal ((l.drop 17).take 4) = v4 at *
    by_cases hok : v1 ≤ 2147483647 ∧ v3 ≤ 2147483647
    · obtain ⟨ho1, ho3⟩ := hok
      obtain ⟨hv10, _⟩ := hv1
      obtain ⟨hv30, _⟩ := hv3
      obtain ⟨hv40, hv41⟩ := hv4
      go_wp2_with fail
      refine (RefPack_yes v1 v3 v4 (x12 == 1) _ hv10 ho1 hv30 ho3 hv40 (by omega)).mono ?_
      rintro e w5 ⟨⟨g, cc, rfl, hO⟩, hb⟩
      have HO := Lib.hid hO
      have HB5 := Lib.hid hb
      have HBX5 : Hid (Below wq.heap.size wq w5) := Lib.hid (HBX0.out.trans (hb.mono HBX0.out.size))
      have d0 := (hb.cell (p := ⟨wq.heap.size, 0, none⟩) (World.block_lt_of_cell? _ _ c0)).trans c0
      have d1 := (hb.cell (p := ⟨wq.heap.size, 1, none⟩) (World.block_lt_of_cell? _ _ c1)).trans c1
      have d2 := (hb.cell (p := ⟨wq.heap.size, 2, none⟩) (World.block_lt_of_cell? _ _ c2)).trans c2
      have d3 := (hb.cell (p := ⟨wq.heap.size, 3, none⟩) (World.block_lt_of_cell? _ _ c3)).trans c3
      clear hO hb c0 c1 c2 c3
      have HPL := Lib.hid (pack_length ⟨v1, x12 == 1, v3, v4⟩)
      have HRl : Hid (RdB w5 w5.heap.size (some ⟨b, off, none⟩) l) := Lib.hid ((HR.out.up HBq.out).up HBX5.out)
      by_cases hpl : packL ⟨v1, x12 == 1, v3, v4⟩ = l
      · have E4 : Hid (openP l = (⟨v1, x12 == 1, v3, v4⟩, 0)) := Lib.hid (by rw [E.out, if_pos (HF.out.2 ⟨⟨hv10, ho1, hv30, ho3⟩, hpl⟩)])
        have HPE := Lib.hid hpl
        clear hpl
        go_wp2_with fail
        refine (Same_any _ 64 cc _ 64 c _ (packL ⟨v1, x12 == 1, v3, v4⟩) l HPL.out HL.out HO.out.rd HRl.out (by omega) (by omega) true (by rw [decide_eq_true_iff]; exact HPE.out)).mono ?_
        rintro e w6 ⟨rfl, hb⟩
        have HBX := Lib.hid (HBX5.out.trans (hb.mono HBX5.out.size))
        have g0 := (hb.cell (p := ⟨wq.heap.size, 0, none⟩) (World.block_lt_of_cell? _ _ d0)).trans d0
        have g1 := (hb.cell (p := ⟨wq.heap.size, 1, none⟩) (World.block_lt_of_cell? _ _ d1)).trans d1
        have g2 := (hb.cell (p := ⟨wq.heap.size, 2, none⟩) (World.block_lt_of_cell? _ _ d2)).trans d2
        have g3 := (hb.cell (p := ⟨wq.heap.size, 3, none⟩) (World.block_lt_of_cell? _ _ d3)).trans d3
        clear hb d0 d1 d2 d3
        have hcell : ∀ j : Nat, w6.cell? ⟨w.heap.size, j, none⟩ = (#[.int .i64 0, .bool false, .int .i64 0, .int .u32 0] : Array Value)[j]? ∧ w6.frozen? ⟨w.heap.size, j, none⟩ = false := fun j => ⟨(HBX.out.cell (p := ⟨w.heap.size, j, none⟩) (by have := HSq.out; show w.heap.size < wq.heap.size; omega)).trans (HCq.out j), (HBX.out.frozen (p := ⟨w.heap.size, j, none⟩) (by have := HSq.out; show w.heap.size < wq.heap.size; omega)).trans (HFq.out j)⟩
        have HBx : Hid (Below w.heap.size w w6) := Lib.hid (HBq.out.trans (HBX.out.mono (by have := HSq.out; omega)))
        have k0 := (hcell 0).1; have k1 := (hcell 1).1; have k2 := (hcell 2).1; have k3 := (hcell 3).1
        have f0 := (hcell 0).2; have f1 := (hcell 1).2; have f2 := (hcell 2).2; have f3 := (hcell 3).2
        simp at k0 k1 k2 k3
        clear hcell
        go_wp2_with fail
        rw [E4.out]
        refine bodyPost_ret (v := .tuple #[.agg #[.int .i64 v1, .bool (x12 == 1), .int .i64 v3, .int .u32 v4], .int .i64 0]) (by simp [results, Try.results13, go_sem, k0, k1, k2, k3]) rfl ⟨rfl, ?_⟩
        exact (((HBx.out.setCell (Nat.le_refl _) _).setCell (Nat.le_refl _) _).setCell (Nat.le_refl _) _).setCell (Nat.le_refl _) _
      · have E4 : Hid (openP l = (hd0, 4)) := Lib.hid (by rw [E.out, if_neg (fun h => hpl (HF.out.1 h).2)])
        have HPE := Lib.hid hpl
        clear hpl
        go_wp2_with fail
        refine (Same_any _ 64 cc _ 64 c _ (packL ⟨v1, x12 == 1, v3, v4⟩) l HPL.out HL.out HO.out.rd HRl.out (by omega) (by omega) false (by rw [decide_eq_false_iff_not]; exact HPE.out)).mono ?_
        rintro e w6 ⟨rfl, hb⟩
        have HBX := Lib.hid (HBX5.out.trans (hb.mono HBX5.out.size))
        clear hb d0 d1 d2 d3
        have hcell : ∀ j : Nat, w6.cell? ⟨w.heap.size, j, none⟩ = (#[.int .i64 0, .bool false, .int .i64 0, .int .u32 0] : Array Value)[j]? ∧ w6.frozen? ⟨w.heap.size, j, none⟩ = false := fun j => ⟨(HBX.out.cell (p := ⟨w.heap.size, j, none⟩) (by have := HSq.out; show w.heap.size < wq.heap.size; omega)).trans (HCq.out j), (HBX.out.frozen (p := ⟨w.heap.size, j, none⟩) (by have := HSq.out; show w.heap.size < wq.heap.size; omega)).trans (HFq.out j)⟩
        have HBx : Hid (Below w.heap.size w w6) := Lib.hid (HBq.out.trans (HBX.out.mono (by have := HSq.out; omega)))
        have k0 := (hcell 0).1; have k1 := (hcell 1).1; have k2 := (hcell 2).1; have k3 := (hcell 3).1
        have f0 := (hcell 0).2; have f1 := (hcell 1).2; have f2 := (hcell 2).2; have f3 := (hcell 3).2
        simp at k0 k1 k2 k3
        clear hcell
        go_wp2_with fail
        rw [E4.out]
        refine bodyPost_ret (v := .tuple #[.agg #[.int .i64 0, .bool false, .int .i64 0, .int .u32 0], .int .i64 4]) (by simp [results, Try.results13, go_sem, k0, k1, k2, k3]) rfl ⟨rfl, ?_⟩
        exact (((HBx.out.setCell (Nat.le_refl _) _).setCell (Nat.le_refl _) _).setCell (Nat.le_refl _) _).setCell (Nat.le_refl _) _
    · have E4 : Hid (openP l = (hd0, 4)) := Lib.hid (by rw [E.out, if_neg (fun h => hok ⟨(HF.out.1 h).1.2.1, (HF.out.1 h).1.2.2.2⟩)])
      go_wp2_with fail
      refine (RefPack_no v1 v3 v4 (x12 == 1) _ (by omega)).mono ?_
      rintro e w5 ⟨rfl, hb⟩
      have HBX : Hid (Below wq.heap.size wq w5) := Lib.hid (HBX0.out.trans (hb.mono HBX0.out.size))
      clear hb c0 c1 c2 c3 hok
      have hcell : ∀ j : Nat, w5.cell? ⟨w.heap.size, j, none⟩ = (#[.int .i64 0, .bool false, .int .i64 0, .int .u32 0] : Array Value)[j]? ∧ w5.frozen? ⟨w.heap.size, j, none⟩ = false := fun j => ⟨(HBX.out.cell (p := ⟨w.heap.size, j, none⟩) (by have := HSq.out; show w.heap.size < wq.heap.size; omega)).trans (HCq.out j), (HBX.out.frozen (p := ⟨w.heap.size, j, none⟩) (by have := HSq.out; show w.heap.size < wq.heap.size; omega)).trans (HFq.out j)⟩
      have HBx : Hid (Below w.heap.size w w5) := Lib.hid (HBq.out.trans (HBX.out.mono (by have := HSq.out; omega)))
      have k0 := (hcell 0).1; have k1 := (hcell 1).1; have k2 := (hcell 2).1; have k3 := (hcell 3).1
      have f0 := (hcell 0).2; have f1 := (hcell 1).2; have f2 := (hcell 2).2; have f3 := (hcell 3).2
      simp at k0 k1 k2 k3
      clear hcell
      go_wp2_with fail
      rw [E4.out]
      refine bodyPost_ret (v := .tuple #[.agg #[.int .i64 0, .bool false, .int .i64 0, .int .u32 0], .int .i64 4]) (by simp [results, Try.results13, go_sem, k0, k1, k2, k3]) rfl ⟨rfl, ?_⟩
      exact (((HBx.out.setCell (Nat.le_refl _) _).setCell (Nat.le_refl _) _).setCell (Nat.le_refl _) _).setCell (Nat.le_refl _) _
  · have hne : (leVal (l.drop 60) != (crcOf (l.take 60) : Int)) = true := by simpa using hxy
    have hne' : (leVal (l.drop 60) == (crcOf (l.take 60) : Int)) = false := by simpa using hxy
    have E : Hid (openP l = (hd0, 5)) := Lib.hid (by rw [HE.out, if_pos hxy])
    clear HE
    have e0 := HCq.out 0; have e1 := HCq.out 1; have e2 := HCq.out 2; have e3 := HCq.out 3
    have f0 := HFq.out 0; have f1 := HFq.out 1; have f2 := HFq.out 2; have f3 := HFq.out 3
    simp at e0 e1 e2 e3
    go_wp2_with fail
    rw [E.out]
    refine bodyPost_ret (v := .tuple #[.agg #[.int .i64 0, .bool false, .int .i64 0, .int .u32 0], .int .i64 5]) (by simp [results, Try.results13, go_sem, e0, e1, e2, e3]) rfl ⟨rfl, ?_⟩
    exact (((HBq.out.setCell (Nat.le_refl _) _).setCell (Nat.le_refl _) _).setCell (Nat.le_refl _) _).setCell (Nat.le_refl _) _
end Go.Proofs.Ytkjfbgjbifdbjaa
