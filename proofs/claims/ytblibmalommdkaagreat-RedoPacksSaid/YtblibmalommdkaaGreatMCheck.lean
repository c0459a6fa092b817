/-
  Check: whether a plan may be run.
-/
import Derived.Test.YtblibmalommdkaaGreatMC
namespace Go.Proofs.YtblibmalommdkaaGreat
open Go.RowKit
/-- A sign against the head of a plan. -/
def HeadBad (p : PlV) (size : Int) : Prop := p.size < 0 ∨ 1048576 < p.size ∨ ¬ Right p.stash ∨ ∃ r ∈ p.stash, size < r.2
theorem headBad_not {p : PlV} {size tail : Int} (h : HeadBad p size) : ¬ PlanP p.pln size tail := by
  rintro ⟨h1, h2, h3, h4, _⟩
  rcases h with h | h | h | ⟨r, hr, h⟩
  · exact absurd h1 (by show ¬ 0 ≤ p.size; omega)
  · exact absurd h2 (by show ¬ p.size ≤ 1048576; omega)
  · exact h h3
  · have := h4 r hr; omega
set_option maxRecDepth 100000 in
set_option maxHeartbeats 2000000 in
theorem check_arg (p : PlV) (size tail : Int) (w : World) (h : size < 0 ∨ tail < 0) :
    Calls Tryz.prog 45 #[.agg p.cells, .int .i64 size, .int .i64 tail] w fun e w' => e = .returned (.int .i64 1) ∧ Below w.heap.size w w' := by
  unfold PlV.cells
  by_cases h1 : size < 0
  · clear h
    go_enter Tryz.func45, Tryz.ntmps45
    go_wp2_with fail
    go_ret
    exact ⟨rfl, (Below.refl _ _).alloc (Nat.le_refl _) _⟩
  · have h2 : tail < 0 := h.resolve_left h1
    clear h
    go_enter Tryz.func45, Tryz.ntmps45
    go_wp2_with fail
    go_ret
    exact ⟨rfl, (Below.refl _ _).alloc (Nat.le_refl _) _⟩
set_option maxRecDepth 100000 in
set_option maxHeartbeats 4000000 in
theorem check_head (p : PlV) (size tail : Int) (w : World) (hP : PlOk w w.heap.size p) (hs : 0 ≤ size) (ht : 0 ≤ tail) (hb : HeadBad p size) (hn : p.stash.length ≤ 1099511627776) :
    Calls Tryz.prog 45 #[.agg p.cells, .int .i64 size, .int .i64 tail] w fun e w' => e = .returned (.int .i64 4) ∧ Below w.heap.size w w' := by
  obtain ⟨n, SA, sc, stash, WA, wc, waves⟩ := p
  unfold PlV.cells HeadBad at *
  simp only at *
  have hb1 : Below w.heap.size w (w.alloc (.cells #[.int .i64 n, .slice SA stash.length sc, .slice WA waves.length wc] 30)) := (Below.refl _ _).alloc (Nat.le_refl _) _
  have HB := Lib.hid hb1
  have HP0 := Lib.hid hP.st
  have HP := Lib.hid ((hP.up hb1).st)
  have hbox := heap_alloc_new w (.cells #[.int .i64 n, .slice SA stash.length sc, .slice WA waves.length wc] 30)
  have HBX := Lib.hid hbox
  clear hb1 hP hbox
  by_cases h1 : n < 0
  · clear hb
    go_enter Tryz.func45, Tryz.ntmps45
    go_wp2_with fail
    go_ret
    exact ⟨rfl, HB.out⟩
  by_cases h2 : 1048576 < n
  · clear hb
    go_enter Tryz.func45, Tryz.ntmps45
    go_wp2_with fail
    go_ret
    exact ⟨rfl, HB.out⟩
  have HR := Lib.hid (Right_any SA stash.length sc _ stash rfl HP.out (by omega))
  clear HP
  by_cases h3 : Right stash
  · have hex : ∃ r ∈ stash, size < r.2 := by
      rcases hb with h | h | h | h
      · exact absurd h h1
      · exact absurd h h2
      · exact absurd h3 h
      · exact h
    have hl : 0 < stash.length := by
      obtain ⟨r, hr, _⟩ := hex
      exact List.length_pos_of_mem hr
    obtain ⟨r, hr⟩ := Sc.get_some stash (stash.length - 1) (by omega)
    have hlt : size < r.2 := by
      by_cases hc : size < r.2
      · exact hc
      · exfalso
        obtain ⟨s, hs1, hs2⟩ := hex
        have := (right_last h3 hr size).2 (by omega) s hs1
        omega
    have HRB := Lib.hid (rightB_of h3)
    obtain ⟨b, off, rfl, hbb, c0, c1⟩ := HP0.out _ _ hr
    have q1 : IntKind.i64.wrap ((stash.length : Int) - 1) = ((stash.length - 1 : Nat) : Int) := by rw [IntWalk.i64_in _ (by omega)]; omega
    have q2 : stash.length - 1 < stash.length := by omega
    have q3 : (0 : Int) < stash.length := by omega
    clear hb hex h3 hr HP0
    go_enter Tryz.func45, Tryz.ntmps45
    go_wp2_with fail
    refine HR.out.mono ?_
    rw [HRB.out]
    rintro e w1 ⟨rfl, hb2⟩
    have HB2 := Lib.hid (HB.out.trans (hb2.mono HB.out.size))
    have hx := (hb2.block w.heap.size (by simp)).trans HBX.out
    have d0 := cell_of_row _ _ 0 _ 30 (0, 0) hx
    have d1 := cell_of_row _ _ 1 _ 30 (0, 0) hx
    have e1 := (HB2.out.cell (p := ⟨b, off + (stash.length - 1) * 2 + 1, none⟩) hbb).trans c1
    simp at d0 d1
    clear hb2 hx c0 c1 HR HRB HB HBX
    generalize stash.length - 1 = lm at *
    generalize stash.length = ln at *
    go_wp2_with fail
    go_ret
    exact ⟨rfl, HB2.out⟩
  · have HRB := Lib.hid (rightB_not h3)
    clear hb h3
    go_enter Tryz.func45, Tryz.ntmps45
    go_wp2_with fail
    refine HR.out.mono ?_
    rw [HRB.out]
    rintro e w1 ⟨rfl, hb2⟩
    have HB2 := Lib.hid (HB.out.trans (hb2.mono HB.out.size))
    clear hb2
    go_wp2_with fail
    go_ret
    exact ⟨rfl, HB2.out⟩
theorem headOk {p : PlV} {size : Int} (h : ¬ HeadBad p size) : 0 ≤ p.size ∧ p.size ≤ 1048576 ∧ Right p.stash ∧ ∀ r ∈ p.stash, r.2 ≤ size := by
  unfold HeadBad at h
  refine ⟨by omega, by omega, ?_, fun r hr => ?_⟩
  · by_cases h1 : Right p.stash
    · exact h1
    · exact absurd (.inr (.inr (.inl h1))) h
  · by_cases h1 : size < r.2
    · exact absurd (.inr (.inr (.inr ⟨r, hr, h1⟩))) h
    · omega
theorem plan_waves {p : PlV} {size tail : Int} (h : ¬ HeadBad p size) : PlanP p.pln size tail ↔ WavesP p.size size tail (tot p.stash) (fun _ => false) p.pln.waves := by
  obtain ⟨h1, h2, h3, h4⟩ := headOk h
  exact ⟨fun h => h.2.2.2.2, fun h => ⟨h1, h2, h3, h4, h⟩⟩
set_option maxRecDepth 100000 in
set_option maxHeartbeats 4000000 in
theorem check_main (p : PlV) (size tail : Int) (w : World) (hP : PlOk w w.heap.size p) (hs : 0 ≤ size ∧ size ≤ 9223372036854775807) (ht : 0 ≤ tail ∧ tail ≤ 9223372036854775807) (hb : ¬ HeadBad p size) (hn : p.stash.length ≤ 1099511627776) (hw : p.waves.length ≤ 1000000) :
    Calls Tryz.prog 45 #[.agg p.cells, .int .i64 size, .int .i64 tail] w fun e w' => e = .returned (.int .i64 (checkV p.pln size tail)) ∧ Below w.heap.size w w' := by
  have hmm := @run_makeMap Tryz.prog
  obtain ⟨h1, h2, h3, h4⟩ := headOk hb
  have hPW := plan_waves (tail := tail) hb
  have hst := right_tot_le h3 size hs.1 h4
  have hst0 := (right_tot h3).1
  have hyes : PlanP p.pln size tail → checkV p.pln size tail = 0 := checkV_ok (by omega)
  have hno : ¬ PlanP p.pln size tail → checkV p.pln size tail = 4 := checkV_bad (by omega)
  have hnl := right_nl h3
  generalize checkV p.pln size tail = cv at *
  generalize PlanP p.pln size tail = PP at *
  generalize hW : p.pln.waves = W at *
  obtain ⟨n, SA, sc, stash, WA, wq, waves⟩ := p
  have hbox := heap_alloc_new w (.cells (PlV.cells ⟨n, SA, sc, stash, WA, wq, waves⟩) 30)
  have hb1 : Below w.heap.size w (w.alloc (.cells (PlV.cells ⟨n, SA, sc, stash, WA, wq, waves⟩) 30)) := (Below.refl _ _).alloc (Nat.le_refl _) _
  have hWv : W = waves.map WvV.wv := hW.symm
  unfold PlV.cells at *
  simp only at *
  clear hW
  have HB := Lib.hid hb1
  have HP := Lib.hid hP
  have HBX := Lib.hid hbox
  have HYES := Lib.hid hyes; have HNO := Lib.hid hno; have HPW := Lib.hid hPW; have HWV := Lib.hid hWv
  have HH := Lib.hid (And.intro h3 h4)
  have HNL := Lib.hid hnl
  have HR := Lib.hid (Right_any SA stash.length sc _ stash rfl (hP.up hb1).st (by omega))
  clear hb1 hP hbox hyes hno hPW hWv hb h3 h4 hnl
  go_enter Tryz.func45, Tryz.ntmps45
  go_upto_region 3 with (fail)
  go_cut [53] (fun v wx => v = .bool false ∧ Hid (Below w.heap.size w wx ∧ wx.heap[w.heap.size]? = some (.cells #[.int .i64 n, .slice SA stash.length sc, .slice WA waves.length wq] 30 (0, 0))))
  case first =>
    have HRB := Lib.hid (rightB_of HH.out.1)
    by_cases hl : stash = []
    · subst hl
      go_wp2_with fail
      refine HR.out.mono ?_
      rw [HRB.out]
      rintro e w1 ⟨rfl, hb2⟩
      have HB2 := Lib.hid (HB.out.trans (hb2.mono HB.out.size))
      have hx := (hb2.block w.heap.size (by simp)).trans HBX.out
      have d1 := cell_of_row _ _ 1 _ 30 (0, 0) hx
      have HX := Lib.hid hx
      simp at d1
      clear hb2 hx HR HRB
      go_wp2_with fail
      go_meet
      exact ⟨by simp only [Value.bool.injEq]; simp; omega, Lib.hid ⟨HB2.out, HX.out⟩⟩
    · have hlen : 0 < stash.length := List.length_pos_iff.2 hl
      obtain ⟨r, hr⟩ := Sc.get_some stash (stash.length - 1) (by omega)
      have hlt : ¬ size < r.2 := by have := HH.out.2 r (List.mem_of_getElem? hr); omega
      obtain ⟨b, off, rfl, hbb, c0, c1⟩ := HP.out.st _ _ hr
      have q1 : IntKind.i64.wrap ((stash.length : Int) - 1) = ((stash.length - 1 : Nat) : Int) := by rw [IntWalk.i64_in _ (by omega)]; omega
      have q2 : stash.length - 1 < stash.length := by omega
      have q3 : (0 : Int) < stash.length := by omega
      clear hl hr
      go_wp2_with fail
      refine HR.out.mono ?_
      rw [HRB.out]
      rintro e w1 ⟨rfl, hb2⟩
      have HB2 := Lib.hid (HB.out.trans (hb2.mono HB.out.size))
      have hx := (hb2.block w.heap.size (by simp)).trans HBX.out
      have d1 := cell_of_row _ _ 1 _ 30 (0, 0) hx
      have HX := Lib.hid hx
      have e1 := (HB2.out.cell (p := ⟨b, off + (stash.length - 1) * 2 + 1, none⟩) hbb).trans c1
      simp at d1
      clear hb2 hx c0 c1 HR HRB
      go_wp2_with fail
      go_meet
      exact ⟨by simp only [Value.bool.injEq]; simp; omega, Lib.hid ⟨HB2.out, HX.out⟩⟩
  case rest =>
    obtain ⟨rfl, HX⟩ := hcut
    have hbx := HX.out.1
    have hsz := hbx.size
    have d1 : wc.cell? ⟨w.heap.size, 1, none⟩ = some (.slice SA stash.length sc) := cell_of_row _ _ 1 _ 30 (0, 0) HX.out.2
    have hlt : w.heap.size < wc.heap.size := (Array.getElem?_eq_some_iff.1 HX.out.2).1
    have hbm : Below wc.heap.size wc (wc.alloc (Obj.map #[] 0)) := (Below.refl _ _).alloc (Nat.le_refl _) _
    have HBM := Lib.hid (hbx.trans (hbm.mono hsz))
    have HM := Lib.hid (SetM.made wc Tryz.prog 3 4)
    have HXM := Lib.hid ((hbm.block _ hlt).trans HX.out.2)
    have HT := Lib.hid (Total_any SA stash.length sc (wc.alloc (Obj.map #[] 0)) stash rfl ((HP.out.below HBM.out (Nat.le_refl _)).more HBM.out.size).st HP.out.si hn)
    clear hbx hbm HR HB HBX
    go_wp2_with fail
    refine HT.out.mono ?_
    rw [HNL.out]
    rintro e w2 ⟨rfl, hb2⟩
    have HB2 := Lib.hid (HBM.out.trans (hb2.mono HBM.out.size))
    have HM2 := Lib.hid (HM.out.up hb2)
    have hx2 := (hb2.block w.heap.size (by simp; omega)).trans HXM.out
    have hs2 := hb2.size
    simp at hs2
    have hb3 : Below w2.heap.size w2 (w2.alloc (.cells #[.int .i64 size, .int .i64 tail, .int .i64 (tot stash)] 116)) := (Below.refl _ _).alloc (Nat.le_refl _) _
    have HCK : Hid (Ck w (w2.alloc (.cells #[.int .i64 size, .int .i64 tail, .int .i64 (tot stash)] 116)) ⟨n, SA, sc, stash, WA, wq, waves⟩ size tail (tot stash) w2.heap.size wc.heap.size 0 (fun _ => false)) := Lib.hid
      ⟨HB2.out.trans (hb3.mono HB2.out.size), (hb3.block _ (by omega)).trans hx2, heap_alloc_new _ _, HM2.out.up hb3, hlt⟩
    have f2 := HCK.out.cells.2.2
    clear hb2 hb3 hx2 HT HM HM2 HXM HBM HX d1
    generalize tot stash = st at *
    go_wp2_with fail
    generalize hge : w2.heap.size = ge at *
    generalize w2.alloc (.cells #[.int .i64 size, .int .i64 tail, .int .i64 st] 116) = w3 at *
    generalize hmb : wc.heap.size = mb at *
    go_loopw [64] (fun i wr => ∃ (k N : Nat) (u : Int → Bool), k ≤ waves.length ∧ i = .int .i64 k ∧ N ≤ 64 * k ∧ Hid (Ck w wr ⟨n, SA, sc, stash, WA, wq, waves⟩ size tail st ge mb N u ∧ (PP ↔ WavesP n size tail st u (W.drop k)))) (fun i _ => waves.length - (intOf i).toNat)
    case atStart => exact ⟨0, 0, fun _ => false, Nat.zero_le _, rfl, by omega, Lib.hid ⟨HCK.out, HPW.out⟩⟩
    case round =>
      clear HCK f2
      obtain ⟨k, N, u, hk, rfl, hN, HI⟩ := hrel
      by_cases hlk : k < waves.length
      · obtain ⟨v, hv⟩ := Sc.get_some waves k hlk
        have hvW : W[k]? = some v.wv := by rw [HWV.out, List.getElem?_map, hv]; rfl
        obtain ⟨wb, woff, rfl, hwb, w00, hwv⟩ := HP.out.wv k v hv
        have w0 := (HI.out.1.low.cell (p := ⟨wb, woff + k, none⟩) hwb).trans w00
        clear w00
        obtain ⟨VA, vc, steps⟩ := v
        simp only at w0
        have hwl : (WvV.wv ⟨VA, vc, steps⟩).length = steps.length := by simp [WvV.wv]
        have HVW := Lib.hid hvW
        have HWV1 := Lib.hid hwv
        have HBAD : Hid (¬ WaveP n size tail st u (WvV.wv ⟨VA, vc, steps⟩) → cv = 4) := Lib.hid fun h => HNO.out (waves_stop HVW.out HI.out.2 h)
        clear hv hvW hwv
        by_cases hm0 : steps.length = 0
        · have HV : Hid (cv = 4) := Lib.hid (HBAD.out fun h => by have := h.1; omega)
          rw [hm0] at w0
          go_wp2_with fail
          go_ret
          exact ⟨Sc.ret_int HV.out.symm, HI.out.1.low⟩
        by_cases hm1 : 64 < steps.length
        · have HV : Hid (cv = 4) := Lib.hid (HBAD.out fun h => by have := h.2.1; omega)
          have hm2 : (64 : Int) < (steps.length : Int) := by omega
          go_wp2_with fail
          go_ret
          exact ⟨Sc.ret_int HV.out.symm, HI.out.1.low⟩
        have hm2 : ¬ (64 : Int) < (steps.length : Int) := by omega
        go_wp2_with fail
        go_loopw [78] (fun i wx => ∃ j : Nat, j ≤ steps.length ∧ i = .int .i64 j ∧ Hid (Ck w wx ⟨n, SA, sc, stash, some ⟨wb, woff, Option.none⟩, wq, waves⟩ size tail st ge mb N u ∧ ∀ s ∈ steps.take j, StepP n size tail st u s.st)) (fun i _ => steps.length - (intOf i).toNat)
        case atStart => exact ⟨0, Nat.zero_le _, rfl, Lib.hid ⟨HI.out.1, fun s hs => by simp at hs⟩⟩
        case round =>
          obtain ⟨j, hj, rfl, HJ⟩ := hrel
          clear w0
          by_cases hlj : j < steps.length
          · obtain ⟨s, hs⟩ := Sc.get_some steps j hlj
            obtain ⟨b, off, rfl, hbb, c0, c1, hok⟩ := (HWV1.out.rd.below HJ.out.1.low (Nat.le_refl _)) j s hs
            have hsin : s ∈ steps := List.mem_of_getElem? hs
            have htk := Sc.take_snoc steps j s hs
            obtain ⟨blk, PA, pc, parts⟩ := s
            simp only at c0 c1
            have hb1 : Below wr.heap.size wr (wr.alloc (.cells #[.int .i64 blk, .slice PA parts.length pc] 78)) := (Below.refl _ _).alloc (Nat.le_refl _) _
            have HCK1 := Lib.hid (HJ.out.1.up hb1)
            have v0 : (wr.alloc (.cells #[.int .i64 blk, .slice PA parts.length pc] 78)).cell? ⟨wr.heap.size, 0, none⟩ = some (.int .i64 blk) := cell_new wr _ 78 0
            have v1 : (wr.alloc (.cells #[.int .i64 blk, .slice PA parts.length pc] 78)).cell? ⟨wr.heap.size, 1, none⟩ = some (.slice PA parts.length pc) := cell_new wr _ 78 1
            have HOK4 := Lib.hid ((hok.below hb1 HJ.out.1.low.size).more (Nat.le_trans HJ.out.1.low.size hb1.size))
            have hpl : parts.length ≤ 9223372036854775807 := Nat.le_trans hok.cap.1 hok.cap.2
            have HSIN := Lib.hid hsin
            have HTK := Lib.hid htk
            have hI := hok.b
            unfold I64 at hI
            simp only at hI
            have HBAD2 : Hid (¬ StepP n size tail st u (blk, parts) → cv = 4) := Lib.hid fun h => HBAD.out fun hw => h (hw.2.2.1 _ (List.mem_map.2 ⟨_, HSIN.out, rfl⟩))
            have HGOOD : Hid (StepP n size tail st u (blk, parts) → ∀ s ∈ steps.take (j + 1), StepP n size tail st u s.st) := Lib.hid fun h => by
              rw [HTK.out]
              intro s hs
              rcases List.mem_append.1 hs with hs | hs
              · exact HJ.out.2 s hs
              · simp at hs; rw [hs]; exact h
            clear hs hsin htk hb1
            go_upto_region 15 with (fail)
            clear hok c0 c1
            generalize hvb : wr.heap.size = vb at *
            generalize wr.alloc (.cells #[.int .i64 blk, .slice PA parts.length pc] 78) = W4 at *
            have x0 : ∀ q : Qs W4, q.1.cell? ⟨vb, 0, Option.none⟩ = some (.int .i64 blk) := fun q => q.cell v0
            have x1 : ∀ q : Qs W4, q.1.cell? ⟨vb, 1, Option.none⟩ = some (.slice PA parts.length pc) := fun q => q.cell v1
            have p0 : ∀ q : Qs W4, q.1.cell? ⟨w.heap.size, 0, Option.none⟩ = some (.int .i64 n) := fun q => q.cell HCK1.out.cells.1
            have hBl : ∀ q : Qs W4, Calls Tryz.prog 59 #[.int .i64 n] q.1 fun e w'' => e = .returned (.int .i64 (blocksN n)) ∧ ∃ q' : Qs W4, w'' = q'.1 := fun q => q.calls_same (blocks_any n q.1 h1 (by omega))
            have hJo : ∀ q : Qs W4, Calls Tryz.prog 60 #[.slice PA parts.length pc] q.1 fun e w'' => e = .returned (.bool (joinedB parts)) ∧ ∃ q' : Qs W4, w'' = q'.1 := fun q => q.calls (joined_any PA _ pc q.1 parts rfl ((HOK4.out.below q.2 (Nat.le_refl _)).more q.2.size).rd hpl)
            have hSi : ∀ q : Qs W4, Calls Tryz.prog 61 #[.slice PA parts.length pc] q.1 fun e w'' => e = .returned (.int .i64 (Sc.sizeL parts)) ∧ ∃ q' : Qs W4, w'' = q'.1 := fun q => q.calls (Sc.Size_any PA _ pc q.1 parts rfl ((HOK4.out.below q.2 (Nat.le_refl _)).more q.2.size).rd hpl)
            clear v0 v1
            by_cases k1 : blk < 0
            · have HV : Hid (cv = 4) := Lib.hid (HBAD2.out fun h => by have h0 : 0 ≤ blk := h.1; omega)
              have kb : decide (blk < 0) = true := decide_eq_true k1
              have hLe : True := trivial
              have hFi : True := trivial
              refine wp_region_below (by kernel_rfl) (by kernel_rfl) ?_
              repeat (go_big_quiet_step (first | exact hBl _ | exact hJo _ | exact hSi _))
              refine wpQuiet_nil ?_
              rintro _ ⟨q, rfl⟩
              have HQ := Lib.hid (HCK1.out.up q.2)
              clear x0 x1 p0 hBl hJo hSi hLe hFi HCK1 HOK4
              generalize q.1 = W5 at *
              go_wp2_with fail
              go_ret
              exact ⟨Sc.ret_int HV.out.symm, HQ.out.low⟩
            have kb1 : decide (blk < 0) = false := decide_eq_false k1
            by_cases k2 : blocksN n ≤ blk
            · have HV : Hid (cv = 4) := Lib.hid (HBAD2.out fun h => by have h0 : blk < blocksN n := h.2.1; omega)
              have kb2 : decide (blocksN n ≤ blk) = true := decide_eq_true k2
              have hLe : True := trivial
              have hFi : True := trivial
              refine wp_region_below (by kernel_rfl) (by kernel_rfl) ?_
              repeat (go_big_quiet_step (first | exact hBl _ | exact hJo _ | exact hSi _))
              refine wpQuiet_nil ?_
              rintro _ ⟨q, rfl⟩
              have HQ := Lib.hid (HCK1.out.up q.2)
              clear x0 x1 p0 hBl hJo hSi hLe hFi HCK1 HOK4
              generalize q.1 = W5 at *
              go_wp2_with fail
              go_ret
              exact ⟨Sc.ret_int HV.out.symm, HQ.out.low⟩
            have kb2 : decide (blocksN n ≤ blk) = false := decide_eq_false k2
            have kbl : blk < 20000 := by unfold blocksN at k2; omega
            have hLe : ∀ q : Qs W4, Calls Tryz.prog 62 #[.int .i64 blk, .int .i64 n] q.1 fun e w'' => e = .returned (.int .i64 (min 64 (n - 64 * blk))) ∧ ∃ q' : Qs W4, w'' = q'.1 := fun q => q.calls_same (length_any blk n q.1 (by omega) (by omega) h1 (by omega))
            by_cases k3f : joinedB parts = false
            · have HV : Hid (cv = 4) := Lib.hid (HBAD2.out fun h => by
                have := joinedB_of ⟨h.2.2.1, h.2.2.2.1⟩
                rw [k3f] at this
                cases this)
              rw [k3f] at hJo
              have hFi : True := trivial
              refine wp_region_below (by kernel_rfl) (by kernel_rfl) ?_
              repeat (go_big_quiet_step (first | exact hBl _ | exact hJo _ | exact hSi _ | exact hLe _))
              refine wpQuiet_nil ?_
              rintro _ ⟨q, rfl⟩
              have HQ := Lib.hid (HCK1.out.up q.2)
              clear x0 x1 p0 hBl hJo hSi hLe hFi HCK1 HOK4
              generalize q.1 = W5 at *
              go_wp2_with fail
              go_ret
              exact ⟨Sc.ret_int HV.out.symm, HQ.out.low⟩
            have k3 : joinedB parts = true := by simpa using k3f
            clear k3f
            have hmay := (joinedB_iff.1 k3).1
            have hSz : Sc.sizeL parts = Sc.tot parts := if_pos hmay
            have hjl := (joinedB_iff.1 k3).2
            rw [k3] at hJo
            rw [hSz] at hSi
            have hFi : ∀ q : Qs W4, Calls Tryz.prog 63 #[.agg #[.int .i64 blk, .slice PA parts.length pc], .slice (some ⟨ge, 0, Option.none⟩) 3 3, .map (some mb)] q.1 fun e w'' => e = .returned (.bool (fitsB size tail st u parts)) ∧ ∃ q' : Qs W4, w'' = q'.1 := fun q => q.calls (fits_any blk PA _ pc parts ge mb N size tail st u q.1 rfl ((HOK4.out.below q.2 (Nat.le_refl _)).more q.2.size).rd hmay hpl (HCK1.out.up q.2).endsAt (HCK1.out.up q.2).map hs ht ⟨hst0, by omega⟩)
            by_cases k4 : ¬ Sc.tot parts = min 64 (n - 64 * blk)
            · have HV : Hid (cv = 4) := Lib.hid (HBAD2.out fun h => k4 h.2.2.2.2.1)
              generalize min 64 (n - 64 * blk) = ml at *
              have k4b : (Sc.tot parts == ml) = false := by simpa using k4
              have k4n : (Sc.tot parts != ml) = true := by simpa using k4
              refine wp_region_below (by kernel_rfl) (by kernel_rfl) ?_
              repeat (go_big_quiet_step (first | exact hBl _ | exact hJo _ | exact hSi _ | exact hLe _ | exact hFi _))
              refine wpQuiet_nil ?_
              rintro _ ⟨q, rfl⟩
              have HQ := Lib.hid (HCK1.out.up q.2)
              clear x0 x1 p0 hBl hJo hSi hLe hFi HCK1 HOK4
              generalize q.1 = W5 at *
              go_wp2_with fail
              go_ret
              exact ⟨Sc.ret_int HV.out.symm, HQ.out.low⟩
            have k4 : Sc.tot parts = min 64 (n - 64 * blk) := Classical.not_not.1 k4
            have HMIN := Lib.hid k4
            rw [k4] at hSi
            have HML : Hid (Sc.tot parts = min 64 (n - 64 * blk)) := HMIN
            clear HMIN
            generalize hml : min 64 (n - 64 * blk) = ml at hSi hLe
            cases k5 : fitsB size tail st u parts
            · have HV : Hid (cv = 4) := Lib.hid (HBAD2.out fun h => by
                have := fitsB_of h.2.2.2.2.2
                rw [k5] at this
                cases this)
              rw [k5] at hFi
              refine wp_region_below (by kernel_rfl) (by kernel_rfl) ?_
              repeat (go_big_quiet_step (first | exact hBl _ | exact hJo _ | exact hSi _ | exact hLe _ | exact hFi _))
              refine wpQuiet_nil ?_
              rintro _ ⟨q, rfl⟩
              have HQ := Lib.hid (HCK1.out.up q.2)
              clear x0 x1 p0 hBl hJo hSi hLe hFi HCK1 HOK4
              generalize q.1 = W5 at *
              go_wp2_with fail
              go_ret
              exact ⟨Sc.ret_int HV.out.symm, HQ.out.low⟩
            · have HNX := Lib.hid (HGOOD.out ⟨by simpa using k1, by show blk < blocksN n; omega, hmay, hjl, HML.out, fitsB_iff.1 k5⟩)
              rw [k5] at hFi
              refine wp_region_below (by kernel_rfl) (by kernel_rfl) ?_
              repeat (go_big_quiet_step (first | exact hBl _ | exact hJo _ | exact hSi _ | exact hLe _ | exact hFi _))
              refine wpQuiet_nil ?_
              rintro _ ⟨q, rfl⟩
              have HQ := Lib.hid (HCK1.out.up q.2)
              clear x0 x1 p0 hBl hJo hSi hLe hFi HCK1 HOK4
              generalize q.1 = W5 at *
              go_wp2_with fail
              go_roundw
              case measure => simp [intOf]; omega
              case rel => exact ⟨j + 1, by omega, by go_num, Lib.hid ⟨HQ.out, HNX.out⟩⟩
          · obtain rfl : j = steps.length := by omega
            clear hlj
            have HALL : Hid (∀ s ∈ steps, StepP n size tail st u s.st) := Lib.hid (by have := HJ.out.2; rwa [List.take_length] at this)
            generalize hvw : WvV.wv ⟨VA, vc, steps⟩ = vW at *
            have HVL := Lib.hid hwl
            have HVE : Hid (∀ (i : Nat) (s : StV), steps[i]? = some s → vW[i]? = some s.st) := Lib.hid fun i s h => by rw [← hvw]; simp [WvV.wv, h]
            have HVM : Hid (∀ x ∈ vW, StepP n size tail st u x) := Lib.hid fun x hx => by
              rw [← hvw] at hx
              obtain ⟨s, h1, h2⟩ := List.mem_map.1 hx
              rw [← h2]
              exact HALL.out s h1
            clear hvw HALL hwl
            go_wp2_with fail
            go_loopw [120] (fun i wx => ∃ (j N' : Nat) (u' : Int → Bool), j ≤ steps.length ∧ i = .int .i64 j ∧ N' ≤ 64 * k + j ∧ Hid (Ck w wx ⟨n, SA, sc, stash, some ⟨wb, woff, Option.none⟩, wq, waves⟩ size tail st ge mb N' u' ∧ u' = wrote u (vW.take j) ∧ (FreshP u vW ↔ FreshP u' (vW.drop j)))) (fun i _ => steps.length - (intOf i).toNat)
            case atStart => exact ⟨0, N, u, Nat.zero_le _, rfl, by omega, Lib.hid ⟨HJ.out.1, rfl, by rw [List.drop_zero]⟩⟩
            case round =>
              obtain ⟨j, N', u', hj3, rfl, hN', HF⟩ := hrel
              clear HJ hj
              by_cases hlj : j < steps.length
              · obtain ⟨s, hs⟩ := Sc.get_some steps j hlj
                obtain ⟨b, off, rfl, hbb, c0, c1, hok⟩ := (HWV1.out.rd.below HF.out.1.low (Nat.le_refl _)) j s hs
                have hsv := HVE.out j s hs
                obtain ⟨blk, PA, pc, parts⟩ := s
                simp only at c0 c1
                have hI : I64 blk := hok.b
                have hb1 : Below wr.heap.size wr (wr.alloc (.cells #[.int .i64 blk, .slice PA parts.length pc] 78)) := (Below.refl _ _).alloc (Nat.le_refl _) _
                have HCK1 := Lib.hid (HF.out.1.up hb1)
                have v0 : (wr.alloc (.cells #[.int .i64 blk, .slice PA parts.length pc] 78)).cell? ⟨wr.heap.size, 0, none⟩ = some (.int .i64 blk) := cell_new wr _ 78 0
                have hlook := HCK1.out.map.lookup map91 hI
                have HSV := Lib.hid hsv
                clear hs hsv hb1 hok
                cases hub : u' blk
                · rw [hub] at hlook
                  obtain ⟨w5, hput, hm5, hg5⟩ := HCK1.out.map.store map91 (by have := HF.out.1.map; unfold maxLen; omega) hI true
                  have HCK2 := Lib.hid (HCK1.out.put hm5 hg5)
                  have HFN := Lib.hid (fresh_next HSV.out HF.out.2.1 HF.out.2.2 hub)
                  clear hub hm5 hg5 hI
                  go_wp2_with fail
                  go_roundw
                  case measure => simp [intOf]; omega
                  case rel => exact ⟨j + 1, N' + 1, _, by omega, by go_num, by omega, Lib.hid ⟨HCK2.out, HFN.out.1, HFN.out.2⟩⟩
                · rw [hub] at hlook
                  have HV : Hid (cv = 4) := Lib.hid (HBAD.out fun h => fresh_stop HSV.out HF.out.2.2 hub h.2.2.2)
                  clear hub hI
                  go_wp2_with fail
                  go_ret
                  exact ⟨Sc.ret_int HV.out.symm, HCK1.out.low⟩
              · obtain rfl : j = steps.length := by omega
                clear hlj
                have HWP : Hid (WaveP n size tail st u vW) := Lib.hid ⟨by have := HVL.out; omega, by have := HVL.out; omega, HVM.out, fresh_end (Nat.le_of_eq HVL.out) HF.out.2.2⟩
                have HNEXT : Hid (Ck w wr ⟨n, SA, sc, stash, some ⟨wb, woff, Option.none⟩, wq, waves⟩ size tail st ge mb N' (wrote u vW) ∧ (PP ↔ WavesP n size tail st (wrote u vW) (W.drop (k + 1)))) := Lib.hid (by
                  have h1 := HF.out.1
                  have h2 := HF.out.2.1
                  rw [List.take_of_length_le (Nat.le_of_eq HVL.out)] at h2
                  rw [← h2]
                  refine ⟨h1, ?_⟩
                  rw [h2]
                  exact waves_next HVW.out HI.out.2 HWP.out)
                go_wp2_with fail
                go_roundw
                case measure => simp [intOf]; omega
                case rel => exact ⟨k + 1, N', _, by omega, by go_num, by omega, HNEXT⟩
      · obtain rfl : k = waves.length := by omega
        clear hlk
        have HV : Hid (cv = 0) := Lib.hid (HYES.out (waves_end (by rw [HWV.out, List.length_map]; exact Nat.le_refl _) HI.out.2))
        go_wp2_with fail
        go_ret
        exact ⟨Sc.ret_int HV.out.symm, HI.out.1.low⟩
/-- Check, of every plan that reads. -/
theorem Check_any (p : PlV) (size tail : Int) (w : World) (hP : PlOk w w.heap.size p) (hs : size ≤ 9223372036854775807) (ht : tail ≤ 9223372036854775807) (hn : p.stash.length ≤ 1099511627776) (hw : p.waves.length ≤ 1000000) :
    Calls Tryz.prog 45 #[.agg p.cells, .int .i64 size, .int .i64 tail] w fun e w' => e = .returned (.int .i64 (checkV p.pln size tail)) ∧ Below w.heap.size w w' := by
  by_cases h : size < 0 ∨ tail < 0
  · rw [checkV_arg h]
    exact check_arg p size tail w h
  · by_cases hb : HeadBad p size
    · rw [checkV_bad h (headBad_not hb)]
      exact check_head p size tail w hP (by omega) (by omega) hb hn
    · exact check_main p size tail w hP ⟨by omega, hs⟩ ⟨by omega, ht⟩ hb hn hw
end Go.Proofs.YtblibmalommdkaaGreat
