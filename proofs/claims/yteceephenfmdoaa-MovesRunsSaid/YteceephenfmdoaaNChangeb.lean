/-
  octavolaw20's changed: a plan with a change reads as some plan, hardly larger: a step that goes to the next wave.
-/
import Derived.Test.YteceephenfmdoaaKOwnp
import Derived.Test.YteceephenfmdoaaNCopy
import Derived.Test.YteceephenfmdoaaMBytes
import Derived.Test.YteceephenfmdoaaKDraw
namespace Go.Proofs.Yteceephenfmdoaa
open Go.RowKit
set_option maxRecDepth 100000 in
set_option maxHeartbeats 8000000 in
theorem changed_three (p : PlV) (how wave at_ by_ : Int) (M : Nat) (w : World) (hP : PlOk w w.heap.size p) (hS : Sml p M 64) (hM : M ≤ 1000) (h0 : I64 how) (h3w : how = 3) (h1 : I64 wave) (h2 : I64 at_) (h3 : I64 by_) :
    Calls Try.prog 31 #[.agg p.cells, .agg #[.int .i64 how, .int .i64 wave, .int .i64 at_, .int .i64 by_]] w fun e w' => (∃ q0 : PlV, e = .returned (.agg q0.cells) ∧ ∀ wf : World, w'.heap.size ≤ wf.heap.size → (∀ b, w.heap.size ≤ b → wf.heap[b]? = w'.heap[b]?) → ∃ q : PlV, PlOk wf wf.heap.size q ∧ q.cells = q0.cells ∧ Sml q (M + 1) 64) ∧ Below w.heap.size w w' := by
  obtain ⟨j0, ji, jz0, jz1, jz2⟩ := info_parts info70
  have H3 := Lib.hid h3w
  clear h3w
  unfold I64 at h0 h1 h2 h3
  have HP := Lib.hid hP
  have HSP := Lib.hid hS
  clear hP hS
  obtain ⟨n0, SA0, sc0, stash0, WA0, wq0, waves0⟩ := p
  unfold PlV.cells
  simp only
  go_enter Try.func31, Try.ntmps31
  go_wp2_with fail
  have x1 : (((w.alloc (.cells #[.int .i64 n0, .slice SA0 stash0.length sc0, .slice WA0 waves0.length wq0] 32)).alloc (.cells #[.int .i64 how, .int .i64 wave, .int .i64 at_, .int .i64 by_] 62)).alloc (.cells #[.int .i64 0, .slice none 0 0, .slice none 0 0] 32)).heap[w.heap.size + 1]? = some (.cells #[.int .i64 how, .int .i64 wave, .int .i64 at_, .int .i64 by_] 62 (0, 0)) := by
    have h := heap_alloc_new (w.alloc (.cells #[.int .i64 n0, .slice SA0 stash0.length sc0, .slice WA0 waves0.length wq0] 32)) (.cells #[.int .i64 how, .int .i64 wave, .int .i64 at_, .int .i64 by_] 62)
    have e : (w.alloc (.cells #[.int .i64 n0, .slice SA0 stash0.length sc0, .slice WA0 waves0.length wq0] 32)).heap.size = w.heap.size + 1 := by simp
    rw [e] at h
    exact (heap_alloc_old _ _ (by simp)).trans h
  have x2 : (((w.alloc (.cells #[.int .i64 n0, .slice SA0 stash0.length sc0, .slice WA0 waves0.length wq0] 32)).alloc (.cells #[.int .i64 how, .int .i64 wave, .int .i64 at_, .int .i64 by_] 62)).alloc (.cells #[.int .i64 0, .slice none 0 0, .slice none 0 0] 32)).heap[w.heap.size + 1 + 1]? = some (.cells #[.int .i64 0, .slice none 0 0, .slice none 0 0] 32 (0, 0)) := by
    have h := heap_alloc_new ((w.alloc (.cells #[.int .i64 n0, .slice SA0 stash0.length sc0, .slice WA0 waves0.length wq0] 32)).alloc (.cells #[.int .i64 how, .int .i64 wave, .int .i64 at_, .int .i64 by_] 62)) (.cells #[.int .i64 0, .slice none 0 0, .slice none 0 0] 32)
    have e : ((w.alloc (.cells #[.int .i64 n0, .slice SA0 stash0.length sc0, .slice WA0 waves0.length wq0] 32)).alloc (.cells #[.int .i64 how, .int .i64 wave, .int .i64 at_, .int .i64 by_] 62)).heap.size = w.heap.size + 1 + 1 := by simp
    rw [e] at h
    exact h
  have hb3 : Below w.heap.size w (((w.alloc (.cells #[.int .i64 n0, .slice SA0 stash0.length sc0, .slice WA0 waves0.length wq0] 32)).alloc (.cells #[.int .i64 how, .int .i64 wave, .int .i64 at_, .int .i64 by_] 62)).alloc (.cells #[.int .i64 0, .slice none 0 0, .slice none 0 0] 32)) := (((Below.refl _ _).alloc (Nat.le_refl _) _).alloc (by simp) _).alloc (by simp; omega) _
  have hz3 : (((w.alloc (.cells #[.int .i64 n0, .slice SA0 stash0.length sc0, .slice WA0 waves0.length wq0] 32)).alloc (.cells #[.int .i64 how, .int .i64 wave, .int .i64 at_, .int .i64 by_] 62)).alloc (.cells #[.int .i64 0, .slice none 0 0, .slice none 0 0] 32)).heap.size = w.heap.size + 3 := by simp
  have HX1 := Lib.hid x1; have HX2 := Lib.hid x2; have HB3 := Lib.hid hb3
  have HP3 : Hid (PlOk (((w.alloc (.cells #[.int .i64 n0, .slice SA0 stash0.length sc0, .slice WA0 waves0.length wq0] 32)).alloc (.cells #[.int .i64 how, .int .i64 wave, .int .i64 at_, .int .i64 by_] 62)).alloc (.cells #[.int .i64 0, .slice none 0 0, .slice none 0 0] 32)) (((w.alloc (.cells #[.int .i64 n0, .slice SA0 stash0.length sc0, .slice WA0 waves0.length wq0] 32)).alloc (.cells #[.int .i64 how, .int .i64 wave, .int .i64 at_, .int .i64 by_] 62)).alloc (.cells #[.int .i64 0, .slice none 0 0, .slice none 0 0] 32)).heap.size ⟨n0, SA0, sc0, stash0, WA0, wq0, waves0⟩) := Lib.hid (HP.out.up hb3)
  clear x1 x2 hb3
  generalize ((w.alloc (.cells #[.int .i64 n0, .slice SA0 stash0.length sc0, .slice WA0 waves0.length wq0] 32)).alloc (.cells #[.int .i64 how, .int .i64 wave, .int .i64 at_, .int .i64 by_] 62)).alloc (.cells #[.int .i64 0, .slice none 0 0, .slice none 0 0] 32) = W3 at *
  have hqb : w.heap.size + 1 + 1 = w.heap.size + 2 := by omega
  rw [hqb] at HX2
  try rw [hqb]
  generalize hpb : w.heap.size = pb at *
  have HPB := Lib.hid hpb
  clear hpb hqb
  refine (Copy_plan ⟨n0, SA0, sc0, stash0, WA0, wq0, waves0⟩ W3 HP3.out (by have := HSP.out.1; simp only at this ⊢; omega) (by have := HSP.out.2.1; simp only at this ⊢; omega) (fun v hv => ⟨by have := (HSP.out.2.2 v hv).1; omega, fun s hs => by have := (HSP.out.2.2 v hv).2 s hs; omega⟩)).mono ?_
  rintro e w4 ⟨⟨q, rfl, hqe, hqo⟩, hb4⟩
  have hpk := hqo.ok_of hqe HP3.out
  have HBI : Hid ((∀ v ∈ q.waves, ∀ s ∈ v.steps, I64 s.blk) ∧ IR q.stash ∧ I64 q.size) := Lib.hid ⟨fun v hv s hs => by
    obtain ⟨k, hk⟩ := List.getElem?_of_mem hv
    obtain ⟨j, hj⟩ := List.getElem?_of_mem hs
    obtain ⟨_, _, _, _, _, hwv⟩ := hpk.wv k v hk
    obtain ⟨_, _, _, _, _, _, hst⟩ := hwv.rd j s hj
    exact hst.b, hpk.si, hpk.sz⟩
  have HSM : Hid (Sml q M 64) := Lib.hid (by
    have h := hqe
    simp only [PlV.pln, Pln.mk.injEq] at h
    refine ⟨by rw [h.2.1]; exact HSP.out.1, by have e := congrArg List.length h.2.2; simp at e; rw [e]; exact HSP.out.2.1, fun v hv => ?_⟩
    have e1 : v.wv ∈ waves0.map WvV.wv := by rw [← h.2.2]; exact List.mem_map.2 ⟨v, hv, rfl⟩
    obtain ⟨v', hv', ev⟩ := List.mem_map.1 e1
    have hm := HSP.out.2.2 v' hv'
    refine ⟨by have e := congrArg List.length ev; simp [WvV.wv] at e; omega, fun s hs => ?_⟩
    have e2 : s.st ∈ v'.wv := by rw [ev]; exact List.mem_map.2 ⟨s, hs, rfl⟩
    obtain ⟨s', hs', es⟩ := List.mem_map.1 e2
    have e3 : s'.parts = s.parts := congrArg Prod.snd es
    rw [← e3]
    exact hm.2 s' hs')
  have hsz4 : pb + 3 ≤ w4.heap.size := by have := hb4.size; omega
  have HO5 : Hid (OwnP (w4.alloc (.cells q.cells 32)) (pb + 3) q) := Lib.hid (by
    rw [← hz3]
    exact hqo.below ((Below.refl w4.heap.size w4).alloc (Nat.le_refl _) _) (Nat.le_refl _))
  have hb34 : Below pb w w4 := HB3.out.trans (hb4.mono (by omega))
  have HZ : Hid ((w4.alloc (.cells q.cells 32)).heap[w4.heap.size]? = some (.cells q.cells 32 (0, 0)) ∧ (w4.alloc (.cells q.cells 32)).heap[pb + 2]? = some (.cells #[.int .i64 0, .slice none 0 0, .slice none 0 0] 32 (0, 0)) ∧ (w4.alloc (.cells q.cells 32)).heap[pb + 1]? = some (.cells #[.int .i64 how, .int .i64 wave, .int .i64 at_, .int .i64 by_] 62 (0, 0)) ∧ Below pb w (w4.alloc (.cells q.cells 32))) :=
    Lib.hid ⟨heap_alloc_new _ _, (heap_alloc_old _ _ (by omega)).trans ((hb4.block (pb + 2) (by omega)).trans HX2.out), (heap_alloc_old _ _ (by omega)).trans ((hb4.block (pb + 1) (by omega)).trans HX1.out), hb34.alloc (by omega) _⟩
  clear hqe hqo hb4 hb34 hpk HX1 HX2 HB3 HP3 HP HSP hz3
  obtain ⟨n, SA, sc, stash, WA, wq, waves⟩ := q
  unfold PlV.cells at *
  simp only at *
  have hqw : w4.heap.size < (w4.alloc (.cells #[.int .i64 n, .slice SA stash.length sc, .slice WA waves.length wq] 32)).heap.size := by simp
  have hqlo : pb + 3 ≤ w4.heap.size := hsz4
  by_cases h5 : how = 5
  · exact absurd (h5.symm.trans H3.out) (by decide)
  · have hf5 : (how == 5) = false := by simpa using h5
    go_upto_region 2 with (fail)
    generalize w4.alloc (.cells #[.int .i64 n, .slice SA stash.length sc, .slice WA waves.length wq] 32) = wr at *
    generalize w4.heap.size = qb at *
    obtain ⟨W5, hW5⟩ : ∃ W5, W5 = wr := ⟨_, rfl⟩
    have HTR : Hid (Trn W5 wr (pb + 3)) := Lib.hid (by rw [hW5]; exact Trn.refl _ _)
    have HOE := HO5
    rw [← hW5] at HO5
    clear hW5
    have k0 : wr.cell? ⟨pb + 1, 0, none⟩ = some (.int .i64 how) := cell_of_row _ _ 0 _ 62 (0, 0) HZ.out.2.2.1
    have c1 : wr.cell? ⟨qb, 1, none⟩ = some (.slice SA stash.length sc) := cell_of_row _ _ 1 _ 32 (0, 0) HZ.out.1
    have k1 : wr.cell? ⟨pb + 1, 1, none⟩ = some (.int .i64 wave) := cell_of_row _ _ 1 _ 62 (0, 0) HZ.out.2.2.1
    have c2 : wr.cell? ⟨qb, 2, none⟩ = some (.slice WA waves.length wq) := cell_of_row _ _ 2 _ 32 (0, 0) HZ.out.1
    have k2 : wr.cell? ⟨pb + 1, 2, none⟩ = some (.int .i64 at_) := cell_of_row _ _ 2 _ 62 (0, 0) HZ.out.2.2.1
    have hwm : waves.length ≤ 100000 := HSM.out.2.1
    by_cases hw0 : waves.length = 0
    · have g0 : ((waves.length : Int) == 0) = true := beq_iff_eq.2 (by omega)
      clear hw0
      have HEV : Hid (∀ wf : World, wr.heap.size ≤ wf.heap.size → (∀ b, pb + 3 ≤ b → wf.heap[b]? = wr.heap[b]?) → ∃ q : PlV, PlOk wf wf.heap.size q ∧ q.cells = PlV.cells ⟨n, SA, sc, stash, WA, wq, waves⟩ ∧ Sml q (M + 1) 64) := Lib.hid (fun wf hs hk => by
        obtain ⟨q, h1, h2, h3⟩ := HO5.out.turned (HTR.out.trans (Trn.box hs hk)) HBI.out.1 HBI.out.2.1 HBI.out.2.2
        exact ⟨q, h1, h2, (h3 _ _ HSM.out).more (by omega)⟩)
      clear k0 k1 c1 c2
      have c0 : wr.cell? ⟨qb, 0, none⟩ = some (.int .i64 n) := cell_of_row _ _ 0 _ 32 (0, 0) HZ.out.1
      have c1 : wr.cell? ⟨qb, 1, none⟩ = some (.slice SA stash.length sc) := cell_of_row _ _ 1 _ 32 (0, 0) HZ.out.1
      have c2 : wr.cell? ⟨qb, 2, none⟩ = some (.slice WA waves.length wq) := cell_of_row _ _ 2 _ 32 (0, 0) HZ.out.1
      have k0 : wr.cell? ⟨pb + 1, 0, none⟩ = some (.int .i64 how) := cell_of_row _ _ 0 _ 62 (0, 0) HZ.out.2.2.1
      have p0 : wr.cell? ⟨pb + 2, 0, none⟩ = some (.int .i64 0) := cell_of_row _ _ 0 _ 32 (0, 0) HZ.out.2.1
      have p1 : wr.cell? ⟨pb + 2, 1, none⟩ = some (.slice none 0 0) := cell_of_row _ _ 1 _ 32 (0, 0) HZ.out.2.1
      have p2 : wr.cell? ⟨pb + 2, 2, none⟩ = some (.slice none 0 0) := cell_of_row _ _ 2 _ 32 (0, 0) HZ.out.2.1
      have z0 : wr.frozen? ⟨pb + 2, 0, none⟩ = false := frozen_of_row _ _ 0 _ _ HZ.out.2.1
      have z1 : wr.frozen? ⟨pb + 2, 1, none⟩ = false := frozen_of_row _ _ 1 _ _ HZ.out.2.1
      have z2 : wr.frozen? ⟨pb + 2, 2, none⟩ = false := frozen_of_row _ _ 2 _ _ HZ.out.2.1
      go_wp2_with fail
      have hh := three_heap HZ.out.2.1 (.int .i64 n) (.slice SA stash.length sc) (.slice WA waves.length wq)
      have hsame : ∀ b, pb + 3 ≤ b → (((wr.setCell ⟨pb + 2, 0, none⟩ (.int .i64 n)).setCell ⟨pb + 2, 1, none⟩ (.slice SA stash.length sc)).setCell ⟨pb + 2, 2, none⟩ (.slice WA waves.length wq)).heap[b]? = wr.heap[b]? := fun b hb => by
        rw [heap_setCell_other _ _ _ _ (by simp only; omega), heap_setCell_other _ _ _ _ (by simp only; omega), heap_setCell_other _ _ _ _ (by simp only; omega)]
      have hws : wr.heap.size ≤ (((wr.setCell ⟨pb + 2, 0, none⟩ (.int .i64 n)).setCell ⟨pb + 2, 1, none⟩ (.slice SA stash.length sc)).setCell ⟨pb + 2, 2, none⟩ (.slice WA waves.length wq)).heap.size := by simp
      have hbel : Below pb w (((wr.setCell ⟨pb + 2, 0, none⟩ (.int .i64 n)).setCell ⟨pb + 2, 1, none⟩ (.slice SA stash.length sc)).setCell ⟨pb + 2, 2, none⟩ (.slice WA waves.length wq)) := ((HZ.out.2.2.2.setCell (p := ⟨pb + 2, 0, none⟩) (by simp) _).setCell (p := ⟨pb + 2, 1, none⟩) (by simp) _).setCell (p := ⟨pb + 2, 2, none⟩) (by simp) _
      show bodyPost _ _ _ _ _ (((wr.setCell ⟨pb + 2, 0, none⟩ (.int .i64 n)).setCell ⟨pb + 2, 1, none⟩ (.slice SA stash.length sc)).setCell ⟨pb + 2, 2, none⟩ (.slice WA waves.length wq))
      obtain ⟨wf, hwf⟩ : ∃ wf, wf = (((wr.setCell ⟨pb + 2, 0, none⟩ (.int .i64 n)).setCell ⟨pb + 2, 1, none⟩ (.slice SA stash.length sc)).setCell ⟨pb + 2, 2, none⟩ (.slice WA waves.length wq)) := ⟨_, rfl⟩
      rw [← hwf] at hh hsame hws hbel
      rw [← hwf]
      clear hwf
      have e0 : wf.cell? ⟨pb + 2, 0, none⟩ = some (.int .i64 n) := cell_of_row _ _ 0 _ 32 (0, 0) hh
      have e1 : wf.cell? ⟨pb + 2, 1, none⟩ = some (.slice SA stash.length sc) := cell_of_row _ _ 1 _ 32 (0, 0) hh
      have e2 : wf.cell? ⟨pb + 2, 2, none⟩ = some (.slice WA waves.length wq) := cell_of_row _ _ 2 _ 32 (0, 0) hh
      refine bodyPost_ret (v := .agg #[.int .i64 n, .slice SA stash.length sc, .slice WA waves.length wq]) (by simp [results, Try.results31, go_sem, e0, e1, e2]) rfl ?_
      obtain rfl := HPB.out
      exact ⟨⟨⟨n, SA, sc, stash, WA, wq, waves⟩, rfl, fun wf2 hs hk => HEV.out wf2 (by omega) (fun b hb => (hk b (by omega)).trans (hsame b hb))⟩, hbel⟩
    · obtain ⟨ω, hω⟩ : ∃ ω : Nat, wave % (waves.length : Int) = (ω : Int) := Int.eq_ofNat_of_zero_le (Int.emod_nonneg wave (by omega))
      have hωl : ω < waves.length := by have h := Int.emod_lt_of_pos wave (show (0 : Int) < waves.length by omega); rw [hω] at h; omega
      have f0 : ((waves.length : Int) == 0) = false := beq_eq_false_iff_ne.2 (by omega)
      go_wp2_with fail
      refine (Pick_any wave waves.length wr (by omega) (by omega) h1.1 h1.2).mono ?_
      rw [hω]
      rintro e w' ⟨rfl, rfl⟩
      clear k1 hω f0
      obtain ⟨v, hv⟩ := Sc.get_some waves ω hωl
      obtain ⟨wb, hWA, hwb, w0⟩ := HO5.out.wv.cellAt hv
      simp only at hWA w0
      subst hWA
      have hwlo : pb + 3 ≤ wb := (HO5.out.wv.ty (b := wb) (inA_some.2 rfl)).1
      have v0 : wr.cell? ⟨wb, ω, none⟩ = some (.slice v.A v.steps.length v.c) := HTR.out.sl ⟨wb, ω, none⟩ hwlo _ _ _ w0
      have HVO := Lib.hid (HO5.out.ws v (List.mem_of_getElem? hv))
      have HVS := Lib.hid (HSM.out.2.2 v (List.mem_of_getElem? hv))
      have HVV := Lib.hid hv
      obtain ⟨VA, vc, steps⟩ := v
      simp only at v0 HVS
      have o0 : (0 : Int) ≤ (ω : Int) := by omega
      have o1 : (ω : Int) < (waves.length : Int) := by omega
      by_cases hm0 : steps.length = 0
      · have g1 : ((steps.length : Int) == 0) = true := beq_iff_eq.2 (by omega)
        clear hm0
        have HEV : Hid (∀ wf : World, wr.heap.size ≤ wf.heap.size → (∀ b, pb + 3 ≤ b → wf.heap[b]? = wr.heap[b]?) → ∃ q : PlV, PlOk wf wf.heap.size q ∧ q.cells = PlV.cells ⟨n, SA, sc, stash, (some ⟨wb, 0, none⟩), wq, waves⟩ ∧ Sml q (M + 1) 64) := Lib.hid (fun wf hs hk => by
          obtain ⟨q, h1, h2, h3⟩ := HO5.out.turned (HTR.out.trans (Trn.box hs hk)) HBI.out.1 HBI.out.2.1 HBI.out.2.2
          exact ⟨q, h1, h2, (h3 _ _ HSM.out).more (by omega)⟩)
        clear hv w0
        have c0 : wr.cell? ⟨qb, 0, none⟩ = some (.int .i64 n) := cell_of_row _ _ 0 _ 32 (0, 0) HZ.out.1
        have c1 : wr.cell? ⟨qb, 1, none⟩ = some (.slice SA stash.length sc) := cell_of_row _ _ 1 _ 32 (0, 0) HZ.out.1
        have c2 : wr.cell? ⟨qb, 2, none⟩ = some (.slice (some ⟨wb, 0, none⟩) waves.length wq) := cell_of_row _ _ 2 _ 32 (0, 0) HZ.out.1
        have k0 : wr.cell? ⟨pb + 1, 0, none⟩ = some (.int .i64 how) := cell_of_row _ _ 0 _ 62 (0, 0) HZ.out.2.2.1
        have p0 : wr.cell? ⟨pb + 2, 0, none⟩ = some (.int .i64 0) := cell_of_row _ _ 0 _ 32 (0, 0) HZ.out.2.1
        have p1 : wr.cell? ⟨pb + 2, 1, none⟩ = some (.slice none 0 0) := cell_of_row _ _ 1 _ 32 (0, 0) HZ.out.2.1
        have p2 : wr.cell? ⟨pb + 2, 2, none⟩ = some (.slice none 0 0) := cell_of_row _ _ 2 _ 32 (0, 0) HZ.out.2.1
        have z0 : wr.frozen? ⟨pb + 2, 0, none⟩ = false := frozen_of_row _ _ 0 _ _ HZ.out.2.1
        have z1 : wr.frozen? ⟨pb + 2, 1, none⟩ = false := frozen_of_row _ _ 1 _ _ HZ.out.2.1
        have z2 : wr.frozen? ⟨pb + 2, 2, none⟩ = false := frozen_of_row _ _ 2 _ _ HZ.out.2.1
        go_wp2_with fail
        have hh := three_heap HZ.out.2.1 (.int .i64 n) (.slice SA stash.length sc) (.slice (some ⟨wb, 0, none⟩) waves.length wq)
        have hsame : ∀ b, pb + 3 ≤ b → (((wr.setCell ⟨pb + 2, 0, none⟩ (.int .i64 n)).setCell ⟨pb + 2, 1, none⟩ (.slice SA stash.length sc)).setCell ⟨pb + 2, 2, none⟩ (.slice (some ⟨wb, 0, none⟩) waves.length wq)).heap[b]? = wr.heap[b]? := fun b hb => by
          rw [heap_setCell_other _ _ _ _ (by simp only; omega), heap_setCell_other _ _ _ _ (by simp only; omega), heap_setCell_other _ _ _ _ (by simp only; omega)]
        have hws : wr.heap.size ≤ (((wr.setCell ⟨pb + 2, 0, none⟩ (.int .i64 n)).setCell ⟨pb + 2, 1, none⟩ (.slice SA stash.length sc)).setCell ⟨pb + 2, 2, none⟩ (.slice (some ⟨wb, 0, none⟩) waves.length wq)).heap.size := by simp
        have hbel : Below pb w (((wr.setCell ⟨pb + 2, 0, none⟩ (.int .i64 n)).setCell ⟨pb + 2, 1, none⟩ (.slice SA stash.length sc)).setCell ⟨pb + 2, 2, none⟩ (.slice (some ⟨wb, 0, none⟩) waves.length wq)) := ((HZ.out.2.2.2.setCell (p := ⟨pb + 2, 0, none⟩) (by simp) _).setCell (p := ⟨pb + 2, 1, none⟩) (by simp) _).setCell (p := ⟨pb + 2, 2, none⟩) (by simp) _
        show bodyPost _ _ _ _ _ (((wr.setCell ⟨pb + 2, 0, none⟩ (.int .i64 n)).setCell ⟨pb + 2, 1, none⟩ (.slice SA stash.length sc)).setCell ⟨pb + 2, 2, none⟩ (.slice (some ⟨wb, 0, none⟩) waves.length wq))
        obtain ⟨wf, hwf⟩ : ∃ wf, wf = (((wr.setCell ⟨pb + 2, 0, none⟩ (.int .i64 n)).setCell ⟨pb + 2, 1, none⟩ (.slice SA stash.length sc)).setCell ⟨pb + 2, 2, none⟩ (.slice (some ⟨wb, 0, none⟩) waves.length wq)) := ⟨_, rfl⟩
        rw [← hwf] at hh hsame hws hbel
        rw [← hwf]
        clear hwf
        have e0 : wf.cell? ⟨pb + 2, 0, none⟩ = some (.int .i64 n) := cell_of_row _ _ 0 _ 32 (0, 0) hh
        have e1 : wf.cell? ⟨pb + 2, 1, none⟩ = some (.slice SA stash.length sc) := cell_of_row _ _ 1 _ 32 (0, 0) hh
        have e2 : wf.cell? ⟨pb + 2, 2, none⟩ = some (.slice (some ⟨wb, 0, none⟩) waves.length wq) := cell_of_row _ _ 2 _ 32 (0, 0) hh
        refine bodyPost_ret (v := .agg #[.int .i64 n, .slice SA stash.length sc, .slice (some ⟨wb, 0, none⟩) waves.length wq]) (by simp [results, Try.results31, go_sem, e0, e1, e2]) rfl ?_
        obtain rfl := HPB.out
        exact ⟨⟨⟨n, SA, sc, stash, (some ⟨wb, 0, none⟩), wq, waves⟩, rfl, fun wf2 hs hk => HEV.out wf2 (by omega) (fun b hb => (hk b (by omega)).trans (hsame b hb))⟩, hbel⟩
      · obtain ⟨α, hα⟩ : ∃ α : Nat, at_ % (steps.length : Int) = (α : Int) := Int.eq_ofNat_of_zero_le (Int.emod_nonneg at_ (by omega))
        have hαl : α < steps.length := by have h := Int.emod_lt_of_pos at_ (show (0 : Int) < steps.length by omega); rw [hα] at h; omega
        have hsm := HVS.out.1
        have f1 : ((steps.length : Int) == 0) = false := beq_eq_false_iff_ne.2 (by omega)
        clear hv w0
        go_upto_region 9 with (fail)
        have a0 : ∀ r : Qs wr, r.1.cell? ⟨pb + 1, 2, none⟩ = some (.int .i64 at_) := fun r => r.cell k2
        have a1 : ∀ r : Qs wr, r.1.cell? ⟨qb, 2, none⟩ = some (.slice (some ⟨wb, 0, none⟩) waves.length wq) := fun r => r.cell c2
        have a2 : ∀ r : Qs wr, r.1.cell? ⟨wb, ω, none⟩ = some (.slice VA steps.length vc) := fun r => r.cell v0
        have hC : ∀ r : Qs wr, Calls Try.prog 30 #[.int .i64 at_, .int .i64 (steps.length : Int)] r.1 fun e w'' => e = .returned (.int .i64 (α : Int)) ∧ ∃ r' : Qs wr, w'' = r'.1 := fun r => r.calls_same (by
          have h := Pick_any at_ steps.length r.1 (by omega) (by omega) h2.1 h2.2
          rw [hα] at h
          exact h)
        have HK0 : Hid (wr.heap[pb + 1]? = some (.cells #[.int .i64 how, .int .i64 wave, .int .i64 at_, .int .i64 by_] 62 (0, 0))) := Lib.hid HZ.out.2.2.1
        clear k0 k2 c2 v0 hα f1
        refine wp_region_below (by kernel_rfl) (by kernel_rfl) ?_
        repeat (go_big_quiet_step (first | exact hC _))
        refine wpQuiet_nil ?_
        rintro _ ⟨r, rfl⟩
        have HZ9 : Hid (r.1.heap[qb]? = some (.cells #[.int .i64 n, .slice SA stash.length sc, .slice (some ⟨wb, 0, none⟩) waves.length wq] 32 (0, 0)) ∧ r.1.heap[pb + 2]? = some (.cells #[.int .i64 0, .slice none 0 0, .slice none 0 0] 32 (0, 0)) ∧ r.1.heap[pb + 1]? = some (.cells #[.int .i64 how, .int .i64 wave, .int .i64 at_, .int .i64 by_] 62 (0, 0)) ∧ Below pb w r.1) := Lib.hid ⟨((r.2).block qb (by omega)).trans HZ.out.1, ((r.2).block (pb + 2) (by omega)).trans HZ.out.2.1, ((r.2).block (pb + 1) (by omega)).trans HZ.out.2.2.1, HZ.out.2.2.2.trans ((r.2).mono (by omega))⟩
        have HTR9 : Hid (Trn W5 r.1 (pb + 3)) := Lib.hid (HTR.out.trans (Trn.below r.2 (Nat.le_refl _)))
        have HOE9 : Hid (OwnP r.1 (pb + 3) ⟨n, SA, sc, stash, (some ⟨wb, 0, none⟩), wq, waves⟩) := Lib.hid (HOE.out.below r.2 (Nat.le_refl _))
        have hqw9 : qb < (r.1).heap.size := by have := (r.2).size; omega
        clear HZ HTR hqw HOE
        have HZ := HZ9; have HTR := HTR9; have hqw := hqw9; have HOE := HOE9
        clear HZ9 HTR9 hqw9 HOE9
        clear a0 a1 a2 hC HK0
        generalize r.1 = wr at *
        obtain ⟨s, hs⟩ := Sc.get_some steps α hαl
        obtain ⟨stb, hVA, hsb, s0, s1⟩ := HVO.out.row.cellAt hs
        simp only at hVA
        subst hVA
        have hslo : pb + 3 ≤ stb := (HVO.out.row.ty (b := stb) (inA_some.2 rfl)).1
        obtain ⟨yb, t0, hyb0⟩ := HTR.out.int ⟨stb, α * 2, none⟩ hslo _ s0
        have HYB : Hid (I64 yb) := Lib.hid (hyb0 (HBI.out.1 _ (List.mem_of_getElem? HVV.out) s (List.mem_of_getElem? hs)))
        clear hyb0
        have t1 := HTR.out.sl ⟨stb, α * 2 + 1, none⟩ hslo _ _ _ s1
        have w0 := HO5.out.wv.cellAt HVV.out
        obtain ⟨wb', ewb, _, w0⟩ := w0
        simp only [Option.some.injEq, Addr.mk.injEq, and_true] at ewb
        subst ewb
        have v0 : wr.cell? ⟨wb, ω, none⟩ = some (.slice (some ⟨stb, 0, none⟩) steps.length vc) := HTR.out.sl ⟨wb, ω, none⟩ hwlo _ _ _ w0
        have HPO := Lib.hid (HVO.out.parts s (List.mem_of_getElem? hs))
        have HPS := Lib.hid (HVS.out.2 s (List.mem_of_getElem? hs))
        have HSS := Lib.hid hs
        obtain ⟨blk, PA, pc, parts⟩ := s
        simp only at t1 HPO HPS
        have c2 : wr.cell? ⟨qb, 2, none⟩ = some (.slice (some ⟨wb, 0, none⟩) waves.length wq) := cell_of_row _ _ 2 _ 32 (0, 0) HZ.out.1
        have k3 : wr.cell? ⟨pb + 1, 3, none⟩ = some (.int .i64 by_) := cell_of_row _ _ 3 _ 62 (0, 0) HZ.out.2.2.1
        obtain ⟨π, hπe⟩ : ∃ π : Nat, π = max 1 parts.length := ⟨_, rfl⟩
        have HPE : Hid (max (1 : Int) (parts.length : Int) = (π : Int)) := Lib.hid (by omega)
        obtain ⟨κ, hκ⟩ : ∃ κ : Nat, by_ % (π : Int) = (κ : Int) := Int.eq_ofNat_of_zero_le (Int.emod_nonneg by_ (by omega))
        have hκl : κ < π := by have h := Int.emod_lt_of_pos by_ (show (0 : Int) < π by omega); rw [hκ] at h; omega
        have b1 : (wr.alloc (.cells #[.int .i64 yb, .slice PA parts.length pc] 70)).heap[wr.heap.size]? = some (.cells #[.int .i64 yb, .slice PA parts.length pc] 70 (0, 0)) := heap_alloc_new wr _
        have hal : Below wr.heap.size wr (wr.alloc (.cells #[.int .i64 yb, .slice PA parts.length pc] 70)) := (Below.refl _ _).alloc (Nat.le_refl _) _
        have HZ9 : Hid ((wr.alloc (.cells #[.int .i64 yb, .slice PA parts.length pc] 70)).heap[qb]? = some (.cells #[.int .i64 n, .slice SA stash.length sc, .slice (some ⟨wb, 0, none⟩) waves.length wq] 32 (0, 0)) ∧ (wr.alloc (.cells #[.int .i64 yb, .slice PA parts.length pc] 70)).heap[pb + 2]? = some (.cells #[.int .i64 0, .slice none 0 0, .slice none 0 0] 32 (0, 0)) ∧ (wr.alloc (.cells #[.int .i64 yb, .slice PA parts.length pc] 70)).heap[pb + 1]? = some (.cells #[.int .i64 how, .int .i64 wave, .int .i64 at_, .int .i64 by_] 62 (0, 0)) ∧ Below pb w (wr.alloc (.cells #[.int .i64 yb, .slice PA parts.length pc] 70))) := Lib.hid ⟨((hal).block qb (by omega)).trans HZ.out.1, ((hal).block (pb + 2) (by omega)).trans HZ.out.2.1, ((hal).block (pb + 1) (by omega)).trans HZ.out.2.2.1, HZ.out.2.2.2.trans ((hal).mono (by omega))⟩
        have HTR9 : Hid (Trn W5 (wr.alloc (.cells #[.int .i64 yb, .slice PA parts.length pc] 70)) (pb + 3)) := Lib.hid (HTR.out.trans (Trn.below hal (Nat.le_refl _)))
        have HOE9 : Hid (OwnP (wr.alloc (.cells #[.int .i64 yb, .slice PA parts.length pc] 70)) (pb + 3) ⟨n, SA, sc, stash, (some ⟨wb, 0, none⟩), wq, waves⟩) := Lib.hid (HOE.out.below hal (Nat.le_refl _))
        have hqw9 : qb < ((wr.alloc (.cells #[.int .i64 yb, .slice PA parts.length pc] 70))).heap.size := by have := (hal).size; omega
        have k3' : (wr.alloc (.cells #[.int .i64 yb, .slice PA parts.length pc] 70)).cell? ⟨pb + 1, 3, none⟩ = some (.int .i64 by_) := cell_of_row _ _ 3 _ 62 (0, 0) HZ9.out.2.2.1
        have i0 : (0 : Int) ≤ (α : Int) := by omega
        have i1 : (α : Int) < (steps.length : Int) := by omega
        have HPS64 := HPS.out
        have hπ1 : 1 ≤ π ∧ π ≤ 64 ∧ (1 ≤ parts.length → π = parts.length) := by have := HPS.out; omega
        clear hs s0 s1 w0 hal hπe
        go_wp2_with fail
        rw [HPE.out]
        refine (Pick_any by_ π _ (by omega) (by omega) h3.1 h3.2).mono ?_
        rw [hκ]
        rintro e w' ⟨rfl, rfl⟩
        have HB1 := Lib.hid b1
        have hvs : wr.heap.size < (wr.alloc (.cells #[.int .i64 yb, .slice PA parts.length pc] 70)).heap.size := by simp
        have hqs : qb < wr.heap.size := hqw
        have hvlo : pb + 3 ≤ wr.heap.size := by omega
        have hsv : stb < wr.heap.size := by have := HTR.out.size; omega
        have hW5v : W5.heap.size ≤ wr.heap.size := HTR.out.size
        clear k3' b1 t0 t1 v0 c2 k3 hκ
        clear HZ HTR hqw HOE
        have HZ := HZ9; have HTR := HTR9; have hqw := hqw9; have HOE := HOE9
        clear HZ9 HTR9 hqw9 HOE9
        generalize wr.alloc (.cells #[.int .i64 yb, .slice PA parts.length pc] 70) = wx at *
        generalize wr.heap.size = vs at *
        generalize wx = wr at *
        by_cases e0 : how = 0
        · subst e0
          exact absurd H3.out (by decide)
        · by_cases e1 : how = 1
          · subst e1
            exact absurd H3.out (by decide)
          · by_cases e2 : how = 2
            · subst e2
              exact absurd H3.out (by decide)
            · by_cases e3 : how = 3
              · subst e3
                have k0 : wr.cell? ⟨pb + 1, 0, none⟩ = some (.int .i64 3) := cell_of_row _ _ 0 _ 62 (0, 0) HZ.out.2.2.1
                have c2 : wr.cell? ⟨qb, 2, none⟩ = some (.slice (some ⟨wb, 0, none⟩) waves.length wq) := cell_of_row _ _ 2 _ 32 (0, 0) HZ.out.1
                obtain ⟨ω1, hω1⟩ : ∃ ω1, ω1 = ω + 1 := ⟨_, rfl⟩
                have hw1 : IntKind.i64.wrap ((ω : Int) + 1) = (ω1 : Int) := by rw [IntWalk.i64_in _ (by omega)]; omega
                have HW1 := Lib.hid hω1
                clear hω1
                by_cases hl3 : ω1 < waves.length
                · have hd3 : decide (ω1 < waves.length) = true := decide_eq_true hl3
                  go_upto_region 19 with (fail)
                  have u0 : wr.cell? ⟨vs, 0, none⟩ = some (.int .i64 yb) := cell_of_row _ _ 0 _ 70 (0, 0) HB1.out
                  have u1 : wr.cell? ⟨vs, 1, none⟩ = some (.slice PA parts.length pc) := cell_of_row _ _ 1 _ 70 (0, 0) HB1.out
                  obtain ⟨x1, hx1⟩ := Sc.get_some waves ω1 hl3
                  have HX1 := Lib.hid hx1
                  obtain ⟨b43, e43, _, v0⟩ := HOE.out.wv.cellAt hx1
                  simp only [Option.some.injEq, Addr.mk.injEq, and_true] at e43
                  subst e43
                  obtain ⟨_, hwbl, cs43, hc43⟩ := HOE.out.wv.ty (b := wb) (inA_some.2 rfl)
                  have zb : wr.frozen? ⟨wb, ω1, none⟩ = false := frozen_of_row wr wb ω1 cs43 43 hc43
                  have HVW := Lib.hid (HOE.out.ws _ (List.mem_of_getElem? hx1))
                  have hty : ∀ b, inA x1.A b → b < wr.heap.size ∧ b < vs ∧ ∃ cs, wr.heap[b]? = some (Obj.cells cs 70 (0, 0)) := fun b hb => ⟨(HVW.out.row.ty hb).2.1, by have := ((HO5.out.ws _ (List.mem_of_getElem? hx1)).row.ty hb).2.1; omega, (HVW.out.row.ty hb).2.2⟩
                  have hm1 := (HSM.out.2.2 _ (List.mem_of_getElem? hx1)).1
                  obtain ⟨VA1, vc1, steps1⟩ := x1
                  simp only at v0 hty hm1
                  have HRW : Hid (OwnS wr (pb + 3) VA1 steps1.length vc1 steps1) := Lib.hid HVW.out.row
                  have hne1 : ¬ inA VA1 qb := fun e => by
                    obtain ⟨_, _, cs, hc⟩ := hty qb e
                    have h := HZ.out.1
                    rw [hc] at h
                    injection h with h
                    injection h with _ h _
                    cases h
                  have hne2 : ¬ inA VA1 wb := fun e => by
                    obtain ⟨_, _, cs, hc⟩ := hty wb e
                    rw [hc] at hc43
                    injection hc43 with h
                    injection h with _ h _
                    cases h
                  have hne4 : ¬ inA VA1 vs := fun e => by have := (hty vs e).2.1; omega
                  have hne3 : qb ≠ wb := fun e => by
                    have h := HZ.out.1
                    rw [e, hc43] at h
                    injection h with h
                    injection h with _ h _
                    cases h
                  have HTY := Lib.hid hty
                  clear hx1 hc43 hty
                  have hal1 : Below wr.heap.size wr (wr.drew.alloc (.cells #[.int .i64 yb, .slice PA parts.length pc] 70)) := (Below.refl wr.heap.size wr).drew.alloc (Nat.le_refl _) _
                  have hR1 : OwnS (wr.drew.alloc (.cells #[.int .i64 yb, .slice PA parts.length pc] 70)) (pb + 3) VA1 steps1.length vc1 steps1 := HRW.out.same (fun b hb => hal1.block b (HRW.out.ty hb).2.1)
                  obtain ⟨v5, w5, hrun, hown5, hgrow5, _, hat5⟩ := run_append_own_at (P := Try.prog) (wr.drew.alloc (.cells #[.int .i64 yb, .slice PA parts.length pc] 70)) (pb + 3) 43 43 70 j0 _ 2 32 Try.underlying43 ji jz0 jz1 jz2 rfl (by decide) (.slice VA1 steps1.length vc1) steps1.length (stCells steps1) hR1.2 ⟨wr.heap.size, 0, none⟩ 1 1 [.int .i64 yb, .slice PA parts.length pc] rfl (World.news_of_block (heap_alloc_new wr.drew _)) (by simp [Value.oneCell']) (by unfold maxLen; omega) (by omega) (by simp; omega)
                  obtain ⟨A5, k5, rfl⟩ := ext_of_ownS hown5
                  have cq0 : wr.drew.cell? ⟨qb, 2, none⟩ = some (.slice (some ⟨wb, 0, none⟩) waves.length wq) := c2
                  have cv0 : wr.drew.cell? ⟨wb, ω1, none⟩ = some (.slice VA1 steps1.length vc1) := v0
                  have cu0 : wr.drew.cell? ⟨vs, 0, none⟩ = some (.int .i64 yb) := u0
                  have cw0 : wr.drew.cell? ⟨vs, 1, none⟩ = some (.slice PA parts.length pc) := u1
                  have hvsw : vs < wr.heap.size := (Array.getElem?_eq_some_iff.1 HB1.out).1
                  have cq1 : (wr.drew.alloc (.cells #[.int .i64 yb, .slice PA parts.length pc] 70)).cell? ⟨qb, 2, none⟩ = _ := (hal1.cell (p := ⟨qb, 2, none⟩) hqw).trans c2
                  have cv1 : (wr.drew.alloc (.cells #[.int .i64 yb, .slice PA parts.length pc] 70)).cell? ⟨wb, ω1, none⟩ = _ := (hal1.cell (p := ⟨wb, ω1, none⟩) hwbl).trans v0
                  have cu1 : (wr.drew.alloc (.cells #[.int .i64 yb, .slice PA parts.length pc] 70)).cell? ⟨vs, 0, none⟩ = _ := (hal1.cell (p := ⟨vs, 0, none⟩) hvsw).trans u0
                  have cw1 : (wr.drew.alloc (.cells #[.int .i64 yb, .slice PA parts.length pc] 70)).cell? ⟨vs, 1, none⟩ = _ := (hal1.cell (p := ⟨vs, 1, none⟩) hvsw).trans u1
                  have hsz1 : wr.heap.size < (wr.drew.alloc (.cells #[.int .i64 yb, .slice PA parts.length pc] 70)).heap.size := by simp
                  have far5 : ∀ (b i : Nat), b < wr.heap.size → ¬ inA VA1 b → w5.cell? ⟨b, i, none⟩ = (wr.drew.alloc (.cells #[.int .i64 yb, .slice PA parts.length pc] 70)).cell? ⟨b, i, none⟩ := fun b i hb hne => hgrow5.cell_far ⟨b, i, none⟩ (by simp only; omega) (fun e => hne (own_in.1 e.symm))
                  have cq2 := (far5 qb 2 hqw hne1).trans cq1
                  have cv2 := (far5 wb ω1 hwbl hne2).trans cv1
                  have cu2 := (far5 vs 0 hvsw hne4).trans cu1
                  have cw2 := (far5 vs 1 hvsw hne4).trans cw1
                  have zv2 : w5.frozen? ⟨wb, ω1, none⟩ = false := (hgrow5.frozen_far ⟨wb, ω1, none⟩ (by simp only; omega) (fun e => hne2 (own_in.1 e.symm))).trans ((hal1.frozen (p := ⟨wb, ω1, none⟩) hwbl).trans zb)
                  refine wp_region_any (by kernel_rfl) ?_
                  change wpAny _ _ _ _ _ _ _ (World.drew _)
                  refine wpAny_invC (fun L a w' => ∃ T : Nat → Value, a = ⟨#[.agg #[.int .i64 n0, .slice SA0 stash0.length sc0, .slice WA0 waves0.length wq0], .agg #[.int .i64 3, .int .i64 wave, .int .i64 at_, .int .i64 by_], .pointer (some ⟨pb, 0, none⟩), .pointer (some ⟨pb + 1, 0, none⟩), .pointer (some ⟨pb + 2, 0, none⟩), .pointer (some ⟨qb, 0, none⟩), .int .i64 ↑ω, .int .i64 ↑α, .pointer (some ⟨vs, 0, none⟩), .int .i64 ↑κ, .agg #[.int .i64 n0, .slice SA0 stash0.length sc0, .slice WA0 waves0.length wq0], .agg #[.int .i64 n, .slice SA stash.length sc, .slice (some ⟨wb, 0, none⟩) waves.length wq], .pointer (some ⟨pb + 1, 0, none⟩), .int .i64 3, .bool false, .bool false, undef, undef, undef, undef, .bool false, undef, undef, undef, undef, undef, undef, undef, undef, undef, undef, undef, undef, undef, .pointer (some ⟨qb, 2, none⟩), .slice (some ⟨wb, 0, none⟩) waves.length wq, .int .i64 ↑waves.length, .bool false, undef, .pointer (some ⟨pb + 1, 1, none⟩), .int .i64 wave, .pointer (some ⟨qb, 2, none⟩), .slice (some ⟨wb, 0, none⟩) waves.length wq, .int .i64 ↑waves.length, .int .i64 ↑ω, .pointer (some ⟨qb, 2, none⟩), .slice (some ⟨wb, 0, none⟩) waves.length wq, .int .i64 ↑ω, .pointer (some ⟨wb, ω, none⟩), .slice (some ⟨stb, 0, none⟩) steps.length vc, .int .i64 ↑steps.length, .bool false, undef, .pointer (some ⟨pb + 1, 2, none⟩), .int .i64 at_, .pointer (some ⟨qb, 2, none⟩), .slice (some ⟨wb, 0, none⟩) waves.length wq, .int .i64 ↑ω, .pointer (some ⟨wb, ω, none⟩), .slice (some ⟨stb, 0, none⟩) steps.length vc, .int .i64 ↑steps.length, .int .i64 ↑α, .pointer (some ⟨qb, 2, none⟩), .slice (some ⟨wb, 0, none⟩) waves.length wq, .int .i64 ↑ω, .pointer (some ⟨wb, ω, none⟩), .slice (some ⟨stb, 0, none⟩) steps.length vc, .int .i64 ↑α, .pointer (some ⟨stb, α * 2, none⟩), .agg #[.int .i64 yb, .slice PA parts.length pc], .pointer (some ⟨pb + 1, 3, none⟩), .int .i64 by_, .pointer (some ⟨vs, 1, none⟩), .slice PA parts.length pc, .int .i64 ↑parts.length, .int .i64 ↑π, .int .i64 ↑κ, .bool false, .pointer (some ⟨pb + 1, 0, none⟩), .int .i64 3, .bool false, undef, undef, undef, undef, undef, undef, undef, undef, undef, undef, undef, undef, .bool false, .pointer (some ⟨pb + 1, 0, none⟩), .int .i64 3, .bool false, .bool false, undef, undef, undef, undef, .bool false, undef, undef, undef, undef, undef, undef, undef, undef, .bool false, .pointer (some ⟨pb + 1, 0, none⟩), .int .i64 3, .bool false, .bool false, undef, undef, undef, undef, .bool false, undef, undef, undef, undef, undef, undef, undef, undef, .bool true, .pointer (some ⟨pb + 1, 0, none⟩), .int .i64 3, .bool true, .bool true, .int .i64 ↑ω, .int .i64 ↑ω1, .pointer (some ⟨qb, 2, none⟩), .slice (some ⟨wb, 0, none⟩) waves.length wq, .int .i64 ↑waves.length, .bool true, .bool true, T 0, T 1, T 2, T 3, T 4, T 5, T 6, T 7, T 8, T 9, T 10, T 11, T 12, T 13, undef, undef, undef, undef, undef, undef, undef, undef, undef, undef, undef, undef, undef, undef, undef, undef, undef, undef, undef, undef, undef, undef, undef, undef, undef, undef, undef, undef, undef, undef, undef, undef, undef, undef, undef, undef, undef, undef, undef], []⟩ ∧ DW 14 (fun i => match i with | 0 => .pointer (some ⟨qb, 2, none⟩) | 1 => .slice (some ⟨wb, 0, none⟩) waves.length wq | 2 => .int .i64 (ω : Int) | 3 => .int .i64 (ω1 : Int) | 4 => .pointer (some ⟨qb, 2, none⟩) | 5 => .slice (some ⟨wb, 0, none⟩) waves.length wq | 6 => .int .i64 (ω : Int) | 7 => .int .i64 (ω1 : Int) | 8 => .pointer (some ⟨wb, ω1, none⟩) | 9 => .slice VA1 steps1.length vc1 | 10 => .agg #[.int .i64 yb, .slice PA parts.length pc] | 11 => .slice (some ⟨wr.heap.size, 0, none⟩) 1 1 | 12 => .slice A5 (steps1.length + 1) k5 | 13 => .pointer (some ⟨wb, ω1, none⟩) | _ => undef) wr.drew [(14, (w5.setCell ⟨wb, ω1, none⟩ (.slice A5 (steps1.length + 1) k5))), (12, w5), (11, (wr.drew.alloc (.cells #[.int .i64 yb, .slice PA parts.length pc] 70)))] (Up L) T w') ?step ?done _ 15 _ _ rfl (by simp) ⟨fun _ => undef, rfl, ?init⟩
                  case init =>
                    have hno : ∀ j, ¬ Up (Array.replicate 15 false) j := fun j hj => by
                      unfold Up at hj
                      by_cases hlt : j < 15
                      · simp [Array.getD_eq_getD_getElem?, hlt] at hj
                      · simp [Array.getD_eq_getD_getElem?, hlt] at hj
                    exact ⟨fun i _ hu => absurd hu (hno i), by rw [wAt_no (hno _), wAt_no (hno _), wAt_no (hno _)]; rfl⟩
                  case done =>
                    intro L a w' hs hinv hr
                    obtain ⟨T19, rfl, hR⟩ := hinv
                    have hall := up_all hs hr rfl (by kernel_rfl)
                    obtain rfl : w' = (w5.setCell ⟨wb, ω1, none⟩ (.slice A5 (steps1.length + 1) k5)) := hR.wd.trans (wAt_yes (x := (14, (w5.setCell ⟨wb, ω1, none⟩ (.slice A5 (steps1.length + 1) k5)))) (hall 14 (by decide)))
                    clear hR hall hr hs
                    have hk5 : ∀ b, b < wr.heap.size → ¬ inA VA1 b → w5.heap[b]? = wr.heap[b]? := fun b hb hn => (hgrow5.block b (by simp; omega) (fun e => hn (own_in.1 e.symm))).trans (hal1.block b hb)
                    have hs5 : wr.heap.size ≤ w5.heap.size := by have := hgrow5.size; have := hal1.size; omega
                    have HSTP := Lib.hid ((HOE.out.ws _ (List.mem_of_getElem? HVV.out)).parts ⟨blk, PA, pc, parts⟩ (List.mem_of_getElem? HSS.out))
                    have hset := OwnP.setWave (w5 := w5) HOE.out HX1.out (wb := wb) rfl (new := ⟨A5, k5, steps1 ++ [⟨yb, PA, pc, parts⟩]⟩) hs5 hk5 ⟨rfl, by rw [stCells_append, stCells_one, List.length_append]; exact hown5⟩ (fun b hb => by
                      rcases hat5 with h | h
                      · exact .inl (own_in.1 (h.symm.trans (own_in.2 hb)))
                      · right
                        have h2 := h.symm.trans (own_in.2 hb)
                        injection h2 with h2
                        simp at h2
                        omega) (fun s hs => by
                      rcases List.mem_append.1 hs with hs | hs
                      · exact HVW.out.parts s hs
                      · simp at hs
                        subst hs
                        exact HSTP.out)
                    have el : (steps1 ++ [(⟨yb, PA, pc, parts⟩ : StV)]).length = steps1.length + 1 := by simp
                    simp only [el] at hset
                    have hall := HSM.out.2.2 _ (List.mem_of_getElem? HX1.out)
                    have hst2 := HSM.out.2.2 _ (List.mem_of_getElem? HVV.out)
                    have HBI2 : Hid (∀ v ∈ waves.set ω1 ⟨A5, k5, steps1 ++ [⟨yb, PA, pc, parts⟩]⟩, ∀ s ∈ v.steps, I64 s.blk) := Lib.hid (set_all HBI.out.1 (fun s hs => by
                      rcases List.mem_append.1 hs with hs | hs
                      · exact HBI.out.1 _ (List.mem_of_getElem? HX1.out) s hs
                      · simp at hs
                        subst hs
                        exact HYB.out))
                    have HSM2 : Hid (∀ v ∈ waves.set ω1 ⟨A5, k5, steps1 ++ [⟨yb, PA, pc, parts⟩]⟩, v.steps.length ≤ M + 1 ∧ ∀ s ∈ v.steps, s.parts.length ≤ 64) := Lib.hid (set_all (P := fun v => v.steps.length ≤ M + 1 ∧ ∀ s ∈ v.steps, s.parts.length ≤ 64) (fun v hv => ⟨Nat.le_trans (HSM.out.2.2 v hv).1 (by omega), (HSM.out.2.2 v hv).2⟩) ⟨by simp only [el]; have := hall.1; simp only at this; omega, fun s hs => by
                      rcases List.mem_append.1 hs with hs | hs
                      · exact hall.2 s hs
                      · simp at hs
                        subst hs
                        exact hst2.2 ⟨blk, PA, pc, parts⟩ (List.mem_of_getElem? HSS.out)⟩)
                    have HVV2 : Hid ((waves.set ω1 ⟨A5, k5, steps1 ++ [⟨yb, PA, pc, parts⟩]⟩)[ω]? = some ⟨some ⟨stb, 0, none⟩, vc, steps⟩) := Lib.hid (by
                      rw [List.getElem?_set_ne (by have := HW1.out; omega)]
                      exact HVV.out)
                    have HWL2 : Hid ((waves.set ω1 ⟨A5, k5, steps1 ++ [⟨yb, PA, pc, parts⟩]⟩).length = waves.length) := Lib.hid (by simp)
                    have HOE9 := Lib.hid hset
                    have hsm9 : ∀ b, b < wr.heap.size → b ≠ wb → ¬ inA VA1 b → (w5.setCell ⟨wb, ω1, none⟩ (.slice A5 (steps1.length + 1) k5)).heap[b]? = wr.heap[b]? := fun b hb h1 h2 => (heap_setCell_other _ _ _ _ h1).trans (hk5 b hb h2)
                    have hbw5 : Below pb w w5 := (HZ.out.2.2.2.trans (hal1.mono (by omega))).grown hgrow5 (by simp; omega) (fun b hb => by have := (HVW.out.row.ty (own_in.1 hb)).1; omega)
                    have hlo1 : ∀ b, inA VA1 b → pb + 3 ≤ b := fun b hb => (HVW.out.row.ty hb).1
                    have HZ9 : Hid ((w5.setCell ⟨wb, ω1, none⟩ (.slice A5 (steps1.length + 1) k5)).heap[qb]? = some (.cells #[.int .i64 n, .slice SA stash.length sc, .slice (some ⟨wb, 0, none⟩) waves.length wq] 32 (0, 0)) ∧ (w5.setCell ⟨wb, ω1, none⟩ (.slice A5 (steps1.length + 1) k5)).heap[pb + 2]? = some (.cells #[.int .i64 0, .slice none 0 0, .slice none 0 0] 32 (0, 0)) ∧ (w5.setCell ⟨wb, ω1, none⟩ (.slice A5 (steps1.length + 1) k5)).heap[pb + 1]? = some (.cells #[.int .i64 3, .int .i64 wave, .int .i64 at_, .int .i64 by_] 62 (0, 0)) ∧ Below pb w (w5.setCell ⟨wb, ω1, none⟩ (.slice A5 (steps1.length + 1) k5))) := Lib.hid ⟨(hsm9 qb hqw hne3 hne1).trans HZ.out.1, (hsm9 (pb + 2) (by omega) (by omega) (fun e => by have := hlo1 _ e; omega)).trans HZ.out.2.1, (hsm9 (pb + 1) (by omega) (by omega) (fun e => by have := hlo1 _ e; omega)).trans HZ.out.2.2.1, hbw5.setCell (by simp only; omega) _⟩
                    have hqw9 : qb < (w5.setCell ⟨wb, ω1, none⟩ (.slice A5 (steps1.length + 1) k5)).heap.size := by simp; omega
                    generalize waves.set ω1 ⟨A5, k5, steps1 ++ [⟨yb, PA, pc, parts⟩]⟩ = waves2 at *
                    clear hset hall hst2 hk5 hs5 hsm9 hbw5 hlo1
                    clear HZ HTR hqw HOE
                    have HZ := HZ9; have HOE := HOE9; have hqw := hqw9
                    clear HZ9 HOE9 hqw9
                    generalize (w5.setCell ⟨wb, ω1, none⟩ (.slice A5 (steps1.length + 1) k5)) = wr at *
                    obtain ⟨b43, e43, _, v0⟩ := HOE.out.wv.cellAt HVV2.out
                    simp only [Option.some.injEq, Addr.mk.injEq, and_true] at e43
                    subst e43
                    simp only at v0
                    have c2 : wr.cell? ⟨qb, 2, none⟩ = some (.slice (some ⟨wb, 0, none⟩) waves.length wq) := cell_of_row _ _ 2 _ 32 (0, 0) HZ.out.1
                    go_upto_region 20 with (fail)
                    have HVW2 := Lib.hid (HOE.out.ws _ (List.mem_of_getElem? HVV2.out))
                    have HRW2 : Hid (OwnS wr (pb + 3) (some ⟨stb, 0, none⟩) steps.length vc steps) := Lib.hid HVW2.out.row
                    obtain ⟨_, hstl, cs70, hc70⟩ := HRW2.out.ty (b := stb) (inA_some.2 rfl)
                    have hcap := HRW2.out.cap
                    unfold maxLen at hcap
                    obtain ⟨_, hwbl, cs43, hc43⟩ := HOE.out.wv.ty (b := wb) (inA_some.2 rfl)
                    have zb : wr.frozen? ⟨wb, ω, none⟩ = false := frozen_of_row wr wb ω cs43 43 hc43
                    have hne3 : qb ≠ wb := fun e => by
                      have h := HZ.out.1
                      rw [e, hc43] at h
                      injection h with h
                      injection h with _ h _
                      cases h
                    clear hc43 hc70
                    have hst6 : steps.length ≤ 100000 := by have := (HSM2.out _ (List.mem_of_getElem? HVV2.out)).1; simp only at this; omega
                    obtain ⟨B1, d1, w1, B2, d2, w2, hrun1, hrun2, hbw1, hbw2, hown2⟩ := run_cut_step wr (pb + 3) stb vc steps HRW2.out α hαl hst6 (if vc = α + 1 then 0 else (α + 1) * 2) (vc - (α + 1)) (fun h => if_neg (by omega))
                    obtain ⟨α1, hα1⟩ : ∃ α1, α1 = α + 1 := ⟨_, rfl⟩
                    have ha1 : IntKind.i64.wrap ((α : Int) + 1) = (α1 : Int) := by rw [IntWalk.i64_in _ (by omega)]; omega
                    rw [← hα1] at hrun2 hown2
                    have hz1s := hbw1.size
                    have hz2s := hbw2.size
                    have ha1l : α1 ≤ steps.length := by omega
                    have ha1i : (α1 : Int) ≤ (steps.length : Int) := by omega
                    have ha1c : (α1 : Int) ≤ (vc : Int) := by omega
                    have hci : (steps.length : Int) ≤ (vc : Int) := by omega
                    have hai : (α : Int) ≤ (vc : Int) := by omega
                    have ha0 : (0 : Int) ≤ (α1 : Int) := by omega
                    have HA1 := Lib.hid hα1
                    have hal0 : Below wr.heap.size wr (wr.drew.alloc (.cells #[] 70)) := (Below.refl wr.heap.size wr).drew.alloc (Nat.le_refl _) _
                    have cq0 : wr.drew.cell? ⟨qb, 2, none⟩ = some (.slice (some ⟨wb, 0, none⟩) waves.length wq) := c2
                    have cv0 : wr.drew.cell? ⟨wb, ω, none⟩ = some (.slice (some ⟨stb, 0, none⟩) steps.length vc) := v0
                    have cq1 : (wr.drew.alloc (.cells #[] 70)).cell? ⟨qb, 2, none⟩ = _ := (hal0.cell (p := ⟨qb, 2, none⟩) hqw).trans c2
                    have cv1 : (wr.drew.alloc (.cells #[] 70)).cell? ⟨wb, ω, none⟩ = _ := (hal0.cell (p := ⟨wb, ω, none⟩) hwbl).trans v0
                    have cq2 := (hbw1.cell (p := ⟨qb, 2, none⟩) hqw).trans c2
                    have cv2 := (hbw1.cell (p := ⟨wb, ω, none⟩) hwbl).trans v0
                    have cq3 := (hbw2.cell (p := ⟨qb, 2, none⟩) hqw).trans c2
                    have cv3 := (hbw2.cell (p := ⟨wb, ω, none⟩) hwbl).trans v0
                    have zv3 : w2.frozen? ⟨wb, ω, none⟩ = false := (hbw2.frozen (p := ⟨wb, ω, none⟩) hwbl).trans zb
                    clear hα1
                    refine wp_region_any (by kernel_rfl) ?_
                    change wpAny _ _ _ _ _ _ _ (World.drew _)
                    refine wpAny_invC (fun L a w' => ∃ T : Nat → Value, a = ⟨#[.agg #[.int .i64 n0, .slice SA0 stash0.length sc0, .slice WA0 waves0.length wq0], .agg #[.int .i64 3, .int .i64 wave, .int .i64 at_, .int .i64 by_], .pointer (some ⟨pb, 0, none⟩), .pointer (some ⟨pb + 1, 0, none⟩), .pointer (some ⟨pb + 2, 0, none⟩), .pointer (some ⟨qb, 0, none⟩), .int .i64 ↑ω, .int .i64 ↑α, .pointer (some ⟨vs, 0, none⟩), .int .i64 ↑κ, .agg #[.int .i64 n0, .slice SA0 stash0.length sc0, .slice WA0 waves0.length wq0], .agg #[.int .i64 n, .slice SA stash.length sc, .slice (some ⟨wb, 0, none⟩) waves.length wq], .pointer (some ⟨pb + 1, 0, none⟩), .int .i64 3, .bool false, .bool false, undef, undef, undef, undef, .bool false, undef, undef, undef, undef, undef, undef, undef, undef, undef, undef, undef, undef, undef, .pointer (some ⟨qb, 2, none⟩), .slice (some ⟨wb, 0, none⟩) waves.length wq, .int .i64 ↑waves.length, .bool false, undef, .pointer (some ⟨pb + 1, 1, none⟩), .int .i64 wave, .pointer (some ⟨qb, 2, none⟩), .slice (some ⟨wb, 0, none⟩) waves.length wq, .int .i64 ↑waves.length, .int .i64 ↑ω, .pointer (some ⟨qb, 2, none⟩), .slice (some ⟨wb, 0, none⟩) waves.length wq, .int .i64 ↑ω, .pointer (some ⟨wb, ω, none⟩), .slice (some ⟨stb, 0, none⟩) steps.length vc, .int .i64 ↑steps.length, .bool false, undef, .pointer (some ⟨pb + 1, 2, none⟩), .int .i64 at_, .pointer (some ⟨qb, 2, none⟩), .slice (some ⟨wb, 0, none⟩) waves.length wq, .int .i64 ↑ω, .pointer (some ⟨wb, ω, none⟩), .slice (some ⟨stb, 0, none⟩) steps.length vc, .int .i64 ↑steps.length, .int .i64 ↑α, .pointer (some ⟨qb, 2, none⟩), .slice (some ⟨wb, 0, none⟩) waves.length wq, .int .i64 ↑ω, .pointer (some ⟨wb, ω, none⟩), .slice (some ⟨stb, 0, none⟩) steps.length vc, .int .i64 ↑α, .pointer (some ⟨stb, α * 2, none⟩), .agg #[.int .i64 yb, .slice PA parts.length pc], .pointer (some ⟨pb + 1, 3, none⟩), .int .i64 by_, .pointer (some ⟨vs, 1, none⟩), .slice PA parts.length pc, .int .i64 ↑parts.length, .int .i64 ↑π, .int .i64 ↑κ, .bool false, .pointer (some ⟨pb + 1, 0, none⟩), .int .i64 3, .bool false, undef, undef, undef, undef, undef, undef, undef, undef, undef, undef, undef, undef, .bool false, .pointer (some ⟨pb + 1, 0, none⟩), .int .i64 3, .bool false, .bool false, undef, undef, undef, undef, .bool false, undef, undef, undef, undef, undef, undef, undef, undef, .bool false, .pointer (some ⟨pb + 1, 0, none⟩), .int .i64 3, .bool false, .bool false, undef, undef, undef, undef, .bool false, undef, undef, undef, undef, undef, undef, undef, undef, .bool true, .pointer (some ⟨pb + 1, 0, none⟩), .int .i64 3, .bool true, .bool true, .int .i64 ↑ω, .int .i64 ↑ω1, .pointer (some ⟨qb, 2, none⟩), .slice (some ⟨wb, 0, none⟩) waves.length wq, .int .i64 ↑waves.length, .bool true, .bool true, T19 0, T19 1, T19 2, T19 3, T19 4, T19 5, T19 6, T19 7, T19 8, T19 9, T19 10, T19 11, T19 12, T19 13, T 0, T 1, T 2, T 3, T 4, T 5, T 6, T 7, T 8, T 9, T 10, T 11, T 12, T 13, T 14, T 15, T 16, T 17, T 18, T 19, T 20, T 21, undef, undef, undef, undef, undef, undef, undef, undef, undef, undef, undef, undef, undef, undef, undef, undef, undef], []⟩ ∧ DW 22 (fun i => match i with | 0 => .pointer (some ⟨qb, 2, none⟩) | 1 => .slice (some ⟨wb, 0, none⟩) waves.length wq | 2 => .int .i64 (ω : Int) | 3 => .slice (some ⟨wr.heap.size, 0, none⟩) 0 0 | 4 => .pointer (some ⟨qb, 2, none⟩) | 5 => .slice (some ⟨wb, 0, none⟩) waves.length wq | 6 => .int .i64 (ω : Int) | 7 => .pointer (some ⟨wb, ω, none⟩) | 8 => .slice (some ⟨stb, 0, none⟩) steps.length vc | 9 => .int .i64 (α : Int) | 10 => .slice (some ⟨stb, 0, none⟩) α vc | 11 => .slice B1 α d1 | 12 => .pointer (some ⟨qb, 2, none⟩) | 13 => .slice (some ⟨wb, 0, none⟩) waves.length wq | 14 => .int .i64 (ω : Int) | 15 => .pointer (some ⟨wb, ω, none⟩) | 16 => .slice (some ⟨stb, 0, none⟩) steps.length vc | 17 => .int .i64 (α : Int) | 18 => .int .i64 (α1 : Int) | 19 => .slice (some ⟨stb, if vc = α1 then 0 else α1 * 2, none⟩) (steps.length - α1) (vc - α1) | 20 => .slice B2 (α + (steps.length - α1)) d2 | 21 => .pointer (some ⟨wb, ω, none⟩) | _ => undef) wr.drew [(22, (w2.setCell ⟨wb, ω, none⟩ (.slice B2 (α + (steps.length - α1)) d2))), (20, w2), (11, w1), (3, (wr.drew.alloc (.cells #[] 70)))] (Up L) T w') ?step2 ?done2 _ 23 _ _ rfl (by simp) ⟨fun _ => undef, rfl, ?init2⟩
                    case init2 =>
                      have hno : ∀ j, ¬ Up (Array.replicate 23 false) j := fun j hj => by
                        unfold Up at hj
                        by_cases hlt : j < 23
                        · simp [Array.getD_eq_getD_getElem?, hlt] at hj
                        · simp [Array.getD_eq_getD_getElem?, hlt] at hj
                      exact ⟨fun i _ hu => absurd hu (hno i), by rw [wAt_no (hno _), wAt_no (hno _), wAt_no (hno _), wAt_no (hno _)]; rfl⟩
                    case done2 =>
                      intro L a w' hs hinv hr
                      obtain ⟨T, rfl, hR⟩ := hinv
                      have hall := up_all hs hr rfl (by kernel_rfl)
                      obtain rfl : w' = (w2.setCell ⟨wb, ω, none⟩ (.slice B2 (α + (steps.length - α1)) d2)) := hR.wd.trans (wAt_yes (x := (22, (w2.setCell ⟨wb, ω, none⟩ (.slice B2 (α + (steps.length - α1)) d2)))) (hall 22 (by decide)))
                      clear hR hall hr hs
                      have el : (steps.take α ++ steps.drop α1).length = α + (steps.length - α1) := by rw [List.length_append, List.length_take, List.length_drop]; omega
                      have hown6 : OwnS w2 (pb + 3) B2 (steps.take α ++ steps.drop α1).length d2 (steps.take α ++ steps.drop α1) := by
                        rw [el]
                        exact ⟨hown2.1, row_mono hown2.2 (by omega)⟩
                      have hall6 : ∀ s ∈ steps.take α ++ steps.drop α1, s ∈ steps := fun s hs => by
                        rcases List.mem_append.1 hs with hs | hs
                        · exact List.mem_of_mem_take hs
                        · exact List.mem_of_mem_drop hs
                      have hset := OwnP.setWave (w5 := w2) HOE.out HVV2.out (wb := wb) rfl (new := ⟨B2, d2, steps.take α ++ steps.drop α1⟩) hz2s (fun b hb _ => hbw2.block b hb) hown6 (fun b hb => .inr (hown2.ty hb).1) (fun s hs => HVW2.out.parts s (hall6 s hs))
                      simp only [el] at hset
                      have hst2 := HSM2.out _ (List.mem_of_getElem? HVV2.out)
                      have HEV : Hid (∀ wf : World, (w2.setCell ⟨wb, ω, none⟩ (.slice B2 (α + (steps.length - α1)) d2)).heap.size ≤ wf.heap.size → (∀ b, pb + 3 ≤ b → wf.heap[b]? = (w2.setCell ⟨wb, ω, none⟩ (.slice B2 (α + (steps.length - α1)) d2)).heap[b]?) → ∃ q : PlV, PlOk wf wf.heap.size q ∧ q.cells = PlV.cells ⟨n, SA, sc, stash, (some ⟨wb, 0, none⟩), wq, waves⟩ ∧ Sml q (M + 1) 64) := Lib.hid (fun wf hs hk => by
                        obtain ⟨q, h1, h2, h3⟩ := hset.evid (M := M + 1) (set_all HBI2.out (fun s hs => HBI2.out _ (List.mem_of_getElem? HVV2.out) s (hall6 s hs))) HBI.out.2.1 HBI.out.2.2 ⟨HSM.out.1, by simp only [List.length_set]; rw [HWL2.out]; exact HSM.out.2.1, set_all (P := fun v => v.steps.length ≤ M + 1 ∧ ∀ s ∈ v.steps, s.parts.length ≤ 64) HSM2.out ⟨by simp only [el]; have := hst2.1; simp only at this; have := HA1.out; omega, fun s hs => hst2.2 s (hall6 s hs)⟩⟩ wf hs hk
                        exact ⟨q, h1, by rw [h2]; simp only [PlV.cells, List.length_set, HWL2.out], h3⟩)
                      have hsm9 : ∀ b, b < wr.heap.size → b ≠ wb → (w2.setCell ⟨wb, ω, none⟩ (.slice B2 (α + (steps.length - α1)) d2)).heap[b]? = wr.heap[b]? := fun b hb h1 => (heap_setCell_other _ _ _ _ h1).trans (hbw2.block b hb)
                      have HZ9 : Hid ((w2.setCell ⟨wb, ω, none⟩ (.slice B2 (α + (steps.length - α1)) d2)).heap[qb]? = some (.cells #[.int .i64 n, .slice SA stash.length sc, .slice (some ⟨wb, 0, none⟩) waves.length wq] 32 (0, 0)) ∧ (w2.setCell ⟨wb, ω, none⟩ (.slice B2 (α + (steps.length - α1)) d2)).heap[pb + 2]? = some (.cells #[.int .i64 0, .slice none 0 0, .slice none 0 0] 32 (0, 0)) ∧ (w2.setCell ⟨wb, ω, none⟩ (.slice B2 (α + (steps.length - α1)) d2)).heap[pb + 1]? = some (.cells #[.int .i64 3, .int .i64 wave, .int .i64 at_, .int .i64 by_] 62 (0, 0)) ∧ Below pb w (w2.setCell ⟨wb, ω, none⟩ (.slice B2 (α + (steps.length - α1)) d2))) := Lib.hid ⟨(hsm9 qb hqw hne3).trans HZ.out.1, (hsm9 (pb + 2) (by omega) (by omega)).trans HZ.out.2.1, (hsm9 (pb + 1) (by omega) (by omega)).trans HZ.out.2.2.1, (HZ.out.2.2.2.trans (hbw2.mono (by omega))).setCell (by simp only; omega) _⟩
                      clear hset hst2 hall6 hown6 hsm9
                      clear HZ hqw HOE
                      have HZ := HZ9
                      clear HZ9
                      generalize (w2.setCell ⟨wb, ω, none⟩ (.slice B2 (α + (steps.length - α1)) d2)) = wr at *
                      have c0 : wr.cell? ⟨qb, 0, none⟩ = some (.int .i64 n) := cell_of_row _ _ 0 _ 32 (0, 0) HZ.out.1
                      have c1 : wr.cell? ⟨qb, 1, none⟩ = some (.slice SA stash.length sc) := cell_of_row _ _ 1 _ 32 (0, 0) HZ.out.1
                      have c2 : wr.cell? ⟨qb, 2, none⟩ = some (.slice (some ⟨wb, 0, none⟩) waves.length wq) := cell_of_row _ _ 2 _ 32 (0, 0) HZ.out.1
                      have k0 : wr.cell? ⟨pb + 1, 0, none⟩ = some (.int .i64 3) := cell_of_row _ _ 0 _ 62 (0, 0) HZ.out.2.2.1
                      have p0 : wr.cell? ⟨pb + 2, 0, none⟩ = some (.int .i64 0) := cell_of_row _ _ 0 _ 32 (0, 0) HZ.out.2.1
                      have p1 : wr.cell? ⟨pb + 2, 1, none⟩ = some (.slice none 0 0) := cell_of_row _ _ 1 _ 32 (0, 0) HZ.out.2.1
                      have p2 : wr.cell? ⟨pb + 2, 2, none⟩ = some (.slice none 0 0) := cell_of_row _ _ 2 _ 32 (0, 0) HZ.out.2.1
                      have z0 : wr.frozen? ⟨pb + 2, 0, none⟩ = false := frozen_of_row _ _ 0 _ _ HZ.out.2.1
                      have z1 : wr.frozen? ⟨pb + 2, 1, none⟩ = false := frozen_of_row _ _ 1 _ _ HZ.out.2.1
                      have z2 : wr.frozen? ⟨pb + 2, 2, none⟩ = false := frozen_of_row _ _ 2 _ _ HZ.out.2.1
                      go_wp2_with fail
                      have hh := three_heap HZ.out.2.1 (.int .i64 n) (.slice SA stash.length sc) (.slice (some ⟨wb, 0, none⟩) waves.length wq)
                      have hsame : ∀ b, pb + 3 ≤ b → (((wr.setCell ⟨pb + 2, 0, none⟩ (.int .i64 n)).setCell ⟨pb + 2, 1, none⟩ (.slice SA stash.length sc)).setCell ⟨pb + 2, 2, none⟩ (.slice (some ⟨wb, 0, none⟩) waves.length wq)).heap[b]? = wr.heap[b]? := fun b hb => by
                        rw [heap_setCell_other _ _ _ _ (by simp only; omega), heap_setCell_other _ _ _ _ (by simp only; omega), heap_setCell_other _ _ _ _ (by simp only; omega)]
                      have hws : wr.heap.size ≤ (((wr.setCell ⟨pb + 2, 0, none⟩ (.int .i64 n)).setCell ⟨pb + 2, 1, none⟩ (.slice SA stash.length sc)).setCell ⟨pb + 2, 2, none⟩ (.slice (some ⟨wb, 0, none⟩) waves.length wq)).heap.size := by simp
                      have hbel : Below pb w (((wr.setCell ⟨pb + 2, 0, none⟩ (.int .i64 n)).setCell ⟨pb + 2, 1, none⟩ (.slice SA stash.length sc)).setCell ⟨pb + 2, 2, none⟩ (.slice (some ⟨wb, 0, none⟩) waves.length wq)) := ((HZ.out.2.2.2.setCell (p := ⟨pb + 2, 0, none⟩) (by simp) _).setCell (p := ⟨pb + 2, 1, none⟩) (by simp) _).setCell (p := ⟨pb + 2, 2, none⟩) (by simp) _
                      show bodyPost _ _ _ _ _ (((wr.setCell ⟨pb + 2, 0, none⟩ (.int .i64 n)).setCell ⟨pb + 2, 1, none⟩ (.slice SA stash.length sc)).setCell ⟨pb + 2, 2, none⟩ (.slice (some ⟨wb, 0, none⟩) waves.length wq))
                      obtain ⟨wf, hwf⟩ : ∃ wf, wf = (((wr.setCell ⟨pb + 2, 0, none⟩ (.int .i64 n)).setCell ⟨pb + 2, 1, none⟩ (.slice SA stash.length sc)).setCell ⟨pb + 2, 2, none⟩ (.slice (some ⟨wb, 0, none⟩) waves.length wq)) := ⟨_, rfl⟩
                      rw [← hwf] at hh hsame hws hbel
                      rw [← hwf]
                      clear hwf
                      have e0 : wf.cell? ⟨pb + 2, 0, none⟩ = some (.int .i64 n) := cell_of_row _ _ 0 _ 32 (0, 0) hh
                      have e1 : wf.cell? ⟨pb + 2, 1, none⟩ = some (.slice SA stash.length sc) := cell_of_row _ _ 1 _ 32 (0, 0) hh
                      have e2 : wf.cell? ⟨pb + 2, 2, none⟩ = some (.slice (some ⟨wb, 0, none⟩) waves.length wq) := cell_of_row _ _ 2 _ 32 (0, 0) hh
                      refine bodyPost_ret (v := .agg #[.int .i64 n, .slice SA stash.length sc, .slice (some ⟨wb, 0, none⟩) waves.length wq]) (by simp [results, Try.results31, go_sem, e0, e1, e2]) rfl ?_
                      obtain rfl := HPB.out
                      exact ⟨⟨⟨n, SA, sc, stash, (some ⟨wb, 0, none⟩), wq, waves⟩, rfl, fun wf2 hs hk => by
                        obtain ⟨q, h1, h2, h3⟩ := HEV.out wf2 (by omega) (fun b hb => (hk b (by omega)).trans (hsame b hb))
                        exact ⟨q, h1, by simpa [PlV.cells] using h2, h3⟩⟩, hbel⟩
                    case step2 =>
                      intro L a w' i hs hcl hinv hr
                      obtain ⟨T, rfl, hR⟩ := hinv
                      have hlt := ready_lt hr
                      have hn : ¬ Up L i := by unfold Up; rw [ready_not hs hr]; decide
                      replace hlt : i < 23 := hlt
                      replace hs : L.size = 23 := hs
                      have hi' : i < L.size := by omega
                      rcases (show i = 0 ∨ i = 1 ∨ i = 2 ∨ i = 3 ∨ i = 4 ∨ i = 5 ∨ i = 6 ∨ i = 7 ∨ i = 8 ∨ i = 9 ∨ i = 10 ∨ i = 11 ∨ i = 12 ∨ i = 13 ∨ i = 14 ∨ i = 15 ∨ i = 16 ∨ i = 17 ∨ i = 18 ∨ i = 19 ∨ i = 20 ∨ i = 21 ∨ i = 22 by omega) with rfl | rfl | rfl | rfl | rfl | rfl | rfl | rfl | rfl | rfl | rfl | rfl | rfl | rfl | rfl | rfl | rfl | rfl | rfl | rfl | rfl | rfl | rfl
                      · refine wpOp_step rfl (fun K hK => ?_)
                        have HK := Lib.hid hK
                        have HR := Lib.hid hR
                        clear hK hR hr hcl
                        go_simp
                        exact HK.out _ _ ⟨put_ T 0 (.pointer (some ⟨qb, 2, none⟩)), by simp [put_], HR.out.same 0 _ hi' (by simp) rfl⟩
                      · have d0 := ready_dep hr 0 (by kernel_rfl)
                        have e0 : T 0 = .pointer (some ⟨qb, 2, none⟩) := hR.val 0 (by decide) d0
                        have hz : ¬ Up L 22 := fun x => hn (hcl 22 1 x (by kernel_rfl))
                        have cqf : w'.cell? ⟨qb, 2, none⟩ = some (.slice (some ⟨wb, 0, none⟩) waves.length wq) := hR.fact (fun W => W.cell? ⟨qb, 2, none⟩ = some (.slice (some ⟨wb, 0, none⟩) waves.length wq)) cq0 (by simp only [List.mem_cons, List.not_mem_nil, or_false]; rintro x (rfl | rfl | rfl | rfl) hx <;> first | exact absurd hx hz | exact cq3 | exact cq2 | exact cq1)
                        clear hz
                        refine wpOp_step rfl (fun K hK => ?_)
                        have HK := Lib.hid hK
                        have HR := Lib.hid hR
                        clear hK hR hr hcl d0
                        go_simp
                        exact HK.out _ _ ⟨put_ T 1 (.slice (some ⟨wb, 0, none⟩) waves.length wq), by simp [put_, e0], HR.out.same 1 _ hi' (by simp) rfl⟩
                      · refine wpOp_step rfl (fun K hK => ?_)
                        have HK := Lib.hid hK
                        have HR := Lib.hid hR
                        clear hK hR hr hcl
                        go_simp
                        exact HK.out _ _ ⟨put_ T 2 (.int .i64 (ω : Int)), by simp [put_], HR.out.same 2 _ hi' (by simp) rfl⟩
                      · have hz22 : ¬ Up L 22 := fun x => hn (hcl 22 3 x (by kernel_rfl))
                        have hz20 : ¬ Up L 20 := fun x => hn (hcl 11 3 (hcl 20 11 x (by kernel_rfl)) (by kernel_rfl))
                        have hz11 : ¬ Up L 11 := fun x => hn (hcl 11 3 x (by kernel_rfl))
                        obtain rfl := hR.first (later := [(22, (w2.setCell ⟨wb, ω, none⟩ (.slice B2 (α + (steps.length - α1)) d2))), (20, w2), (11, w1)]) (by simp; exact ⟨hz22, hz20, hz11⟩) hn
                        refine wpOp_step rfl (fun K hK => ?_)
                        have HK := Lib.hid hK
                        have HR := Lib.hid hR
                        clear hK hR hr hcl
                        go_simp
                        exact HK.out _ _ ⟨put_ T 3 (.slice (some ⟨wr.heap.size, 0, none⟩) 0 0), by simp [put_], DW.step (later := [(22, (w2.setCell ⟨wb, ω, none⟩ (.slice B2 (α + (steps.length - α1)) d2))), (20, w2), (11, w1)]) HR.out _ hi' (by simp; exact ⟨hz22, hz20, hz11⟩) (fun _ => rfl)⟩
                      · refine wpOp_step rfl (fun K hK => ?_)
                        have HK := Lib.hid hK
                        have HR := Lib.hid hR
                        clear hK hR hr hcl
                        go_simp
                        exact HK.out _ _ ⟨put_ T 4 (.pointer (some ⟨qb, 2, none⟩)), by simp [put_], HR.out.same 4 _ hi' (by simp) rfl⟩
                      · have d4 := ready_dep hr 4 (by kernel_rfl)
                        have e4 : T 4 = .pointer (some ⟨qb, 2, none⟩) := hR.val 4 (by decide) d4
                        have hz : ¬ Up L 22 := fun x => hn (hcl 22 5 x (by kernel_rfl))
                        have cqf : w'.cell? ⟨qb, 2, none⟩ = some (.slice (some ⟨wb, 0, none⟩) waves.length wq) := hR.fact (fun W => W.cell? ⟨qb, 2, none⟩ = some (.slice (some ⟨wb, 0, none⟩) waves.length wq)) cq0 (by simp only [List.mem_cons, List.not_mem_nil, or_false]; rintro x (rfl | rfl | rfl | rfl) hx <;> first | exact absurd hx hz | exact cq3 | exact cq2 | exact cq1)
                        clear hz
                        refine wpOp_step rfl (fun K hK => ?_)
                        have HK := Lib.hid hK
                        have HR := Lib.hid hR
                        clear hK hR hr hcl d4
                        go_simp
                        exact HK.out _ _ ⟨put_ T 5 (.slice (some ⟨wb, 0, none⟩) waves.length wq), by simp [put_, e4], HR.out.same 5 _ hi' (by simp) rfl⟩
                      · refine wpOp_step rfl (fun K hK => ?_)
                        have HK := Lib.hid hK
                        have HR := Lib.hid hR
                        clear hK hR hr hcl
                        go_simp
                        exact HK.out _ _ ⟨put_ T 6 (.int .i64 (ω : Int)), by simp [put_], HR.out.same 6 _ hi' (by simp) rfl⟩
                      · have d5 := ready_dep hr 5 (by kernel_rfl)
                        have e5 : T 5 = .slice (some ⟨wb, 0, none⟩) waves.length wq := hR.val 5 (by decide) d5
                        have d6 := ready_dep hr 6 (by kernel_rfl)
                        have e6 : T 6 = .int .i64 (ω : Int) := hR.val 6 (by decide) d6
                        refine wpOp_step rfl (fun K hK => ?_)
                        have HK := Lib.hid hK
                        have HR := Lib.hid hR
                        clear hK hR hr hcl d5 d6
                        go_simp
                        exact HK.out _ _ ⟨put_ T 7 (.pointer (some ⟨wb, ω, none⟩)), by simp [put_, e5, e6], HR.out.same 7 _ hi' (by simp) rfl⟩
                      · have d7 := ready_dep hr 7 (by kernel_rfl)
                        have e7 : T 7 = .pointer (some ⟨wb, ω, none⟩) := hR.val 7 (by decide) d7
                        have hz : ¬ Up L 22 := fun x => hn (hcl 22 8 x (by kernel_rfl))
                        have cvf : w'.cell? ⟨wb, ω, none⟩ = some (.slice (some ⟨stb, 0, none⟩) steps.length vc) := hR.fact (fun W => W.cell? ⟨wb, ω, none⟩ = some (.slice (some ⟨stb, 0, none⟩) steps.length vc)) cv0 (by simp only [List.mem_cons, List.not_mem_nil, or_false]; rintro x (rfl | rfl | rfl | rfl) hx <;> first | exact absurd hx hz | exact cv3 | exact cv2 | exact cv1)
                        clear hz
                        refine wpOp_step rfl (fun K hK => ?_)
                        have HK := Lib.hid hK
                        have HR := Lib.hid hR
                        clear hK hR hr hcl d7
                        go_simp
                        exact HK.out _ _ ⟨put_ T 8 (.slice (some ⟨stb, 0, none⟩) steps.length vc), by simp [put_, e7], HR.out.same 8 _ hi' (by simp) rfl⟩
                      · refine wpOp_step rfl (fun K hK => ?_)
                        have HK := Lib.hid hK
                        have HR := Lib.hid hR
                        clear hK hR hr hcl
                        go_simp
                        exact HK.out _ _ ⟨put_ T 9 (.int .i64 (α : Int)), by simp [put_], HR.out.same 9 _ hi' (by simp) rfl⟩
                      · have d8 := ready_dep hr 8 (by kernel_rfl)
                        have e8 : T 8 = .slice (some ⟨stb, 0, none⟩) steps.length vc := hR.val 8 (by decide) d8
                        have d9 := ready_dep hr 9 (by kernel_rfl)
                        have e9 : T 9 = .int .i64 (α : Int) := hR.val 9 (by decide) d9
                        refine wpOp_step rfl (fun K hK => ?_)
                        have HK := Lib.hid hK
                        have HR := Lib.hid hR
                        clear hK hR hr hcl d8 d9
                        go_simp
                        exact HK.out _ _ ⟨put_ T 10 (.slice (some ⟨stb, 0, none⟩) α vc), by simp [put_, e8, e9], HR.out.same 10 _ hi' (by simp) rfl⟩
                      · have d3 := ready_dep hr 3 (by kernel_rfl)
                        have e3 : T 3 = .slice (some ⟨wr.heap.size, 0, none⟩) 0 0 := hR.val 3 (by decide) d3
                        have d10 := ready_dep hr 10 (by kernel_rfl)
                        have e10 : T 10 = .slice (some ⟨stb, 0, none⟩) α vc := hR.val 10 (by decide) d10
                        have hz22 : ¬ Up L 22 := fun x => hn (hcl 22 11 x (by kernel_rfl))
                        have hz20 : ¬ Up L 20 := fun x => hn (hcl 20 11 x (by kernel_rfl))
                        obtain rfl := hR.ahead (later := [(22, (w2.setCell ⟨wb, ω, none⟩ (.slice B2 (α + (steps.length - α1)) d2))), (20, w2)]) (by simp; exact ⟨hz22, hz20⟩) hn d3
                        refine wpOp_step rfl (fun K hK => ?_)
                        have HK := Lib.hid hK
                        have HR := Lib.hid hR
                        clear hK hR hr hcl d3 d10
                        have hrn : (Builtin.append_ #[43, 43] 43 #[.slice (some ⟨wr.heap.size, 0, none⟩) 0 0, .slice (some ⟨stb, 0, none⟩) α vc]).run Try.prog (wr.drew.alloc (.cells #[] 70)) = .ok (.slice B1 α d1) w1 := hrun1
                        refine step_append_told (by rfl) (.tmp 158) (.tmp 165) 43 (by rfl) _ _ _ (show T 3 = _ from e3) (show T 10 = _ from e10) hrn ?_
                        exact HK.out _ _ ⟨put_ T 11 (.slice B1 α d1), by simp [put_, Act.put, e3, e10], DW.step (later := [(22, (w2.setCell ⟨wb, ω, none⟩ (.slice B2 (α + (steps.length - α1)) d2))), (20, w2)]) HR.out _ hi' (by simp; exact ⟨hz22, hz20⟩) (fun _ => rfl)⟩
                      · refine wpOp_step rfl (fun K hK => ?_)
                        have HK := Lib.hid hK
                        have HR := Lib.hid hR
                        clear hK hR hr hcl
                        go_simp
                        exact HK.out _ _ ⟨put_ T 12 (.pointer (some ⟨qb, 2, none⟩)), by simp [put_], HR.out.same 12 _ hi' (by simp) rfl⟩
                      · have d12 := ready_dep hr 12 (by kernel_rfl)
                        have e12 : T 12 = .pointer (some ⟨qb, 2, none⟩) := hR.val 12 (by decide) d12
                        have hz : ¬ Up L 22 := fun x => hn (hcl 22 13 x (by kernel_rfl))
                        have cqf : w'.cell? ⟨qb, 2, none⟩ = some (.slice (some ⟨wb, 0, none⟩) waves.length wq) := hR.fact (fun W => W.cell? ⟨qb, 2, none⟩ = some (.slice (some ⟨wb, 0, none⟩) waves.length wq)) cq0 (by simp only [List.mem_cons, List.not_mem_nil, or_false]; rintro x (rfl | rfl | rfl | rfl) hx <;> first | exact absurd hx hz | exact cq3 | exact cq2 | exact cq1)
                        clear hz
                        refine wpOp_step rfl (fun K hK => ?_)
                        have HK := Lib.hid hK
                        have HR := Lib.hid hR
                        clear hK hR hr hcl d12
                        go_simp
                        exact HK.out _ _ ⟨put_ T 13 (.slice (some ⟨wb, 0, none⟩) waves.length wq), by simp [put_, e12], HR.out.same 13 _ hi' (by simp) rfl⟩
                      · refine wpOp_step rfl (fun K hK => ?_)
                        have HK := Lib.hid hK
                        have HR := Lib.hid hR
                        clear hK hR hr hcl
                        go_simp
                        exact HK.out _ _ ⟨put_ T 14 (.int .i64 (ω : Int)), by simp [put_], HR.out.same 14 _ hi' (by simp) rfl⟩
                      · have d13 := ready_dep hr 13 (by kernel_rfl)
                        have e13 : T 13 = .slice (some ⟨wb, 0, none⟩) waves.length wq := hR.val 13 (by decide) d13
                        have d14 := ready_dep hr 14 (by kernel_rfl)
                        have e14 : T 14 = .int .i64 (ω : Int) := hR.val 14 (by decide) d14
                        refine wpOp_step rfl (fun K hK => ?_)
                        have HK := Lib.hid hK
                        have HR := Lib.hid hR
                        clear hK hR hr hcl d13 d14
                        go_simp
                        exact HK.out _ _ ⟨put_ T 15 (.pointer (some ⟨wb, ω, none⟩)), by simp [put_, e13, e14], HR.out.same 15 _ hi' (by simp) rfl⟩
                      · have d15 := ready_dep hr 15 (by kernel_rfl)
                        have e15 : T 15 = .pointer (some ⟨wb, ω, none⟩) := hR.val 15 (by decide) d15
                        have hz : ¬ Up L 22 := fun x => hn (hcl 22 16 x (by kernel_rfl))
                        have cvf : w'.cell? ⟨wb, ω, none⟩ = some (.slice (some ⟨stb, 0, none⟩) steps.length vc) := hR.fact (fun W => W.cell? ⟨wb, ω, none⟩ = some (.slice (some ⟨stb, 0, none⟩) steps.length vc)) cv0 (by simp only [List.mem_cons, List.not_mem_nil, or_false]; rintro x (rfl | rfl | rfl | rfl) hx <;> first | exact absurd hx hz | exact cv3 | exact cv2 | exact cv1)
                        clear hz
                        refine wpOp_step rfl (fun K hK => ?_)
                        have HK := Lib.hid hK
                        have HR := Lib.hid hR
                        clear hK hR hr hcl d15
                        go_simp
                        exact HK.out _ _ ⟨put_ T 16 (.slice (some ⟨stb, 0, none⟩) steps.length vc), by simp [put_, e15], HR.out.same 16 _ hi' (by simp) rfl⟩
                      · refine wpOp_step rfl (fun K hK => ?_)
                        have HK := Lib.hid hK
                        have HR := Lib.hid hR
                        clear hK hR hr hcl
                        go_simp
                        exact HK.out _ _ ⟨put_ T 17 (.int .i64 (α : Int)), by simp [put_], HR.out.same 17 _ hi' (by simp) rfl⟩
                      · have d17 := ready_dep hr 17 (by kernel_rfl)
                        have e17 : T 17 = .int .i64 (α : Int) := hR.val 17 (by decide) d17
                        refine wpOp_step rfl (fun K hK => ?_)
                        have HK := Lib.hid hK
                        have HR := Lib.hid hR
                        clear hK hR hr hcl d17
                        go_simp
                        exact HK.out _ _ ⟨put_ T 18 (.int .i64 (α1 : Int)), by simp [put_, e17], HR.out.same 18 _ hi' (by simp) rfl⟩
                      · have d16 := ready_dep hr 16 (by kernel_rfl)
                        have e16 : T 16 = .slice (some ⟨stb, 0, none⟩) steps.length vc := hR.val 16 (by decide) d16
                        have d18 := ready_dep hr 18 (by kernel_rfl)
                        have e18 : T 18 = .int .i64 (α1 : Int) := hR.val 18 (by decide) d18
                        refine wpOp_step rfl (fun K hK => ?_)
                        have HK := Lib.hid hK
                        have HR := Lib.hid hR
                        clear hK hR hr hcl d16 d18
                        go_simp
                        exact HK.out _ _ ⟨put_ T 19 (.slice (some ⟨stb, if vc = α1 then 0 else α1 * 2, none⟩) (steps.length - α1) (vc - α1)), by simp [put_, e16, e18]; split <;> rfl, HR.out.same 19 _ hi' (by simp) rfl⟩
                      · have d11 := ready_dep hr 11 (by kernel_rfl)
                        have e11 : T 11 = .slice B1 α d1 := hR.val 11 (by decide) d11
                        have d19 := ready_dep hr 19 (by kernel_rfl)
                        have e19 : T 19 = .slice (some ⟨stb, if vc = α1 then 0 else α1 * 2, none⟩) (steps.length - α1) (vc - α1) := hR.val 19 (by decide) d19
                        have hz22 : ¬ Up L 22 := fun x => hn (hcl 22 20 x (by kernel_rfl))
                        obtain rfl := (hR.ahead (later := [(22, (w2.setCell ⟨wb, ω, none⟩ (.slice B2 (α + (steps.length - α1)) d2)))]) (by simp; exact hz22) hn d11).symm
                        refine wpOp_step rfl (fun K hK => ?_)
                        have HK := Lib.hid hK
                        have HR := Lib.hid hR
                        clear hK hR hr hcl d11 d19
                        have hrn : (Builtin.append_ #[43, 43] 43 #[.slice B1 α d1, .slice (some ⟨stb, if vc = α1 then 0 else α1 * 2, none⟩) (steps.length - α1) (vc - α1)]).run Try.prog w1 = .ok (.slice B2 (α + (steps.length - α1)) d2) w2 := hrun2
                        refine step_append_told (by rfl) (.tmp 166) (.tmp 174) 43 (by rfl) _ _ _ (show T 11 = _ from e11) (show T 19 = _ from e19) hrn ?_
                        exact HK.out _ _ ⟨put_ T 20 (.slice B2 (α + (steps.length - α1)) d2), by simp [put_, Act.put, e11, e19], DW.step (later := [(22, (w2.setCell ⟨wb, ω, none⟩ (.slice B2 (α + (steps.length - α1)) d2)))]) HR.out _ hi' (by simp; exact hz22) (fun _ => rfl)⟩
                      · have d1 := ready_dep hr 1 (by kernel_rfl)
                        have e1 : T 1 = .slice (some ⟨wb, 0, none⟩) waves.length wq := hR.val 1 (by decide) d1
                        have d2 := ready_dep hr 2 (by kernel_rfl)
                        have e2 : T 2 = .int .i64 (ω : Int) := hR.val 2 (by decide) d2
                        refine wpOp_step rfl (fun K hK => ?_)
                        have HK := Lib.hid hK
                        have HR := Lib.hid hR
                        clear hK hR hr hcl d1 d2
                        go_simp
                        exact HK.out _ _ ⟨put_ T 21 (.pointer (some ⟨wb, ω, none⟩)), by simp [put_, e1, e2], HR.out.same 21 _ hi' (by simp) rfl⟩
                      · have d20 := ready_dep hr 20 (by kernel_rfl)
                        have e20 : T 20 = .slice B2 (α + (steps.length - α1)) d2 := hR.val 20 (by decide) d20
                        have d21 := ready_dep hr 21 (by kernel_rfl)
                        have e21 : T 21 = .pointer (some ⟨wb, ω, none⟩) := hR.val 21 (by decide) d21
                        obtain rfl := hR.ahead (later := []) (by simp) hn d20
                        have f0 := cv3
                        have f1 := zv3
                        refine wpOp_step rfl (fun K hK => ?_)
                        have HK := Lib.hid hK
                        have HR := Lib.hid hR
                        clear hK hR hr hcl d20 d21
                        go_simp
                        exact HK.out _ _ ⟨put_ T 22 undef, by simp [put_, e20, e21], DW.step (later := []) HR.out _ hi' (by simp) (fun h => absurd h (by decide))⟩
                  case step =>
                    intro L a w' i hs hcl hinv hr
                    obtain ⟨T, rfl, hR⟩ := hinv
                    have hlt := ready_lt hr
                    have hn : ¬ Up L i := by unfold Up; rw [ready_not hs hr]; decide
                    replace hlt : i < 15 := hlt
                    replace hs : L.size = 15 := hs
                    have hi' : i < L.size := by omega
                    rcases (show i = 0 ∨ i = 1 ∨ i = 2 ∨ i = 3 ∨ i = 4 ∨ i = 5 ∨ i = 6 ∨ i = 7 ∨ i = 8 ∨ i = 9 ∨ i = 10 ∨ i = 11 ∨ i = 12 ∨ i = 13 ∨ i = 14 by omega) with rfl | rfl | rfl | rfl | rfl | rfl | rfl | rfl | rfl | rfl | rfl | rfl | rfl | rfl | rfl
                    · refine wpOp_step rfl (fun K hK => ?_)
                      have HK := Lib.hid hK
                      have HR := Lib.hid hR
                      clear hK hR hr hcl
                      go_simp
                      exact HK.out _ _ ⟨put_ T 0 (.pointer (some ⟨qb, 2, none⟩)), by simp [put_], HR.out.same 0 _ hi' (by simp) rfl⟩
                    · have d0 := ready_dep hr 0 (by kernel_rfl)
                      have e0 : T 0 = .pointer (some ⟨qb, 2, none⟩) := hR.val 0 (by decide) d0
                      have hz : ¬ Up L 14 := fun x => hn (hcl 14 1 x (by kernel_rfl))
                      have cqf : w'.cell? ⟨qb, 2, none⟩ = some (.slice (some ⟨wb, 0, none⟩) waves.length wq) := hR.fact (fun W => W.cell? ⟨qb, 2, none⟩ = some (.slice (some ⟨wb, 0, none⟩) waves.length wq)) cq0 (by simp only [List.mem_cons, List.not_mem_nil, or_false]; rintro x (rfl | rfl | rfl) hx <;> first | exact absurd hx hz | exact cq2 | exact cq1)
                      clear hz
                      refine wpOp_step rfl (fun K hK => ?_)
                      have HK := Lib.hid hK
                      have HR := Lib.hid hR
                      clear hK hR hr hcl d0
                      go_simp
                      exact HK.out _ _ ⟨put_ T 1 (.slice (some ⟨wb, 0, none⟩) waves.length wq), by simp [put_, e0], HR.out.same 1 _ hi' (by simp) rfl⟩
                    · refine wpOp_step rfl (fun K hK => ?_)
                      have HK := Lib.hid hK
                      have HR := Lib.hid hR
                      clear hK hR hr hcl
                      go_simp
                      exact HK.out _ _ ⟨put_ T 2 (.int .i64 (ω : Int)), by simp [put_], HR.out.same 2 _ hi' (by simp) rfl⟩
                    · have d2 := ready_dep hr 2 (by kernel_rfl)
                      have e2 : T 2 = .int .i64 (ω : Int) := hR.val 2 (by decide) d2
                      refine wpOp_step rfl (fun K hK => ?_)
                      have HK := Lib.hid hK
                      have HR := Lib.hid hR
                      clear hK hR hr hcl d2
                      go_simp
                      exact HK.out _ _ ⟨put_ T 3 (.int .i64 (ω1 : Int)), by simp [put_, e2], HR.out.same 3 _ hi' (by simp) rfl⟩
                    · refine wpOp_step rfl (fun K hK => ?_)
                      have HK := Lib.hid hK
                      have HR := Lib.hid hR
                      clear hK hR hr hcl
                      go_simp
                      exact HK.out _ _ ⟨put_ T 4 (.pointer (some ⟨qb, 2, none⟩)), by simp [put_], HR.out.same 4 _ hi' (by simp) rfl⟩
                    · have d4 := ready_dep hr 4 (by kernel_rfl)
                      have e4 : T 4 = .pointer (some ⟨qb, 2, none⟩) := hR.val 4 (by decide) d4
                      have hz : ¬ Up L 14 := fun x => hn (hcl 14 5 x (by kernel_rfl))
                      have cqf : w'.cell? ⟨qb, 2, none⟩ = some (.slice (some ⟨wb, 0, none⟩) waves.length wq) := hR.fact (fun W => W.cell? ⟨qb, 2, none⟩ = some (.slice (some ⟨wb, 0, none⟩) waves.length wq)) cq0 (by simp only [List.mem_cons, List.not_mem_nil, or_false]; rintro x (rfl | rfl | rfl) hx <;> first | exact absurd hx hz | exact cq2 | exact cq1)
                      clear hz
                      refine wpOp_step rfl (fun K hK => ?_)
                      have HK := Lib.hid hK
                      have HR := Lib.hid hR
                      clear hK hR hr hcl d4
                      go_simp
                      exact HK.out _ _ ⟨put_ T 5 (.slice (some ⟨wb, 0, none⟩) waves.length wq), by simp [put_, e4], HR.out.same 5 _ hi' (by simp) rfl⟩
                    · refine wpOp_step rfl (fun K hK => ?_)
                      have HK := Lib.hid hK
                      have HR := Lib.hid hR
                      clear hK hR hr hcl
                      go_simp
                      exact HK.out _ _ ⟨put_ T 6 (.int .i64 (ω : Int)), by simp [put_], HR.out.same 6 _ hi' (by simp) rfl⟩
                    · have d6 := ready_dep hr 6 (by kernel_rfl)
                      have e6 : T 6 = .int .i64 (ω : Int) := hR.val 6 (by decide) d6
                      refine wpOp_step rfl (fun K hK => ?_)
                      have HK := Lib.hid hK
                      have HR := Lib.hid hR
                      clear hK hR hr hcl d6
                      go_simp
                      exact HK.out _ _ ⟨put_ T 7 (.int .i64 (ω1 : Int)), by simp [put_, e6], HR.out.same 7 _ hi' (by simp) rfl⟩
                    · have d5 := ready_dep hr 5 (by kernel_rfl)
                      have e5 : T 5 = .slice (some ⟨wb, 0, none⟩) waves.length wq := hR.val 5 (by decide) d5
                      have d7 := ready_dep hr 7 (by kernel_rfl)
                      have e7 : T 7 = .int .i64 (ω1 : Int) := hR.val 7 (by decide) d7
                      refine wpOp_step rfl (fun K hK => ?_)
                      have HK := Lib.hid hK
                      have HR := Lib.hid hR
                      clear hK hR hr hcl d5 d7
                      go_simp
                      exact HK.out _ _ ⟨put_ T 8 (.pointer (some ⟨wb, ω1, none⟩)), by simp [put_, e5, e7], HR.out.same 8 _ hi' (by simp) rfl⟩
                    · have d8 := ready_dep hr 8 (by kernel_rfl)
                      have e8 : T 8 = .pointer (some ⟨wb, ω1, none⟩) := hR.val 8 (by decide) d8
                      have hz : ¬ Up L 14 := fun x => hn (hcl 14 9 x (by kernel_rfl))
                      have cvf : w'.cell? ⟨wb, ω1, none⟩ = some (.slice VA1 steps1.length vc1) := hR.fact (fun W => W.cell? ⟨wb, ω1, none⟩ = some (.slice VA1 steps1.length vc1)) cv0 (by simp only [List.mem_cons, List.not_mem_nil, or_false]; rintro x (rfl | rfl | rfl) hx <;> first | exact absurd hx hz | exact cv2 | exact cv1)
                      clear hz
                      refine wpOp_step rfl (fun K hK => ?_)
                      have HK := Lib.hid hK
                      have HR := Lib.hid hR
                      clear hK hR hr hcl d8
                      go_simp
                      exact HK.out _ _ ⟨put_ T 9 (.slice VA1 steps1.length vc1), by simp [put_, e8], HR.out.same 9 _ hi' (by simp) rfl⟩
                    · have hz : ¬ Up L 14 := fun x => hn (hcl 14 10 x (by kernel_rfl))
                      have cuf : w'.cell? ⟨vs, 0, none⟩ = some (.int .i64 yb) := hR.fact (fun W => W.cell? ⟨vs, 0, none⟩ = some (.int .i64 yb)) cu0 (by simp only [List.mem_cons, List.not_mem_nil, or_false]; rintro x (rfl | rfl | rfl) hx <;> first | exact absurd hx hz | exact cu2 | exact cu1)
                      have cwf : w'.cell? ⟨vs, 1, none⟩ = some (.slice PA parts.length pc) := hR.fact (fun W => W.cell? ⟨vs, 1, none⟩ = some (.slice PA parts.length pc)) cw0 (by simp only [List.mem_cons, List.not_mem_nil, or_false]; rintro x (rfl | rfl | rfl) hx <;> first | exact absurd hx hz | exact cw2 | exact cw1)
                      clear hz
                      refine wpOp_step rfl (fun K hK => ?_)
                      have HK := Lib.hid hK
                      have HR := Lib.hid hR
                      clear hK hR hr hcl
                      go_simp
                      exact HK.out _ _ ⟨put_ T 10 (.agg #[.int .i64 yb, .slice PA parts.length pc]), by simp [put_], HR.out.same 10 _ hi' (by simp) rfl⟩
                    · have d10 := ready_dep hr 10 (by kernel_rfl)
                      have e10 : T 10 = .agg #[.int .i64 yb, .slice PA parts.length pc] := hR.val 10 (by decide) d10
                      have hz : ¬ Up L 14 := fun x => hn (hcl 14 11 x (by kernel_rfl))
                      have hz1 : ¬ Up L 12 := fun x => hn (hcl 12 11 x (by kernel_rfl))
                      obtain rfl := hR.first (later := [(14, (w5.setCell ⟨wb, ω1, none⟩ (.slice A5 (steps1.length + 1) k5))), (12, w5)]) (by simp; exact ⟨hz, hz1⟩) hn
                      refine wpOp_step rfl (fun K hK => ?_)
                      have HK := Lib.hid hK
                      have HR := Lib.hid hR
                      clear hK hR hr hcl d10
                      go_simp
                      exact HK.out _ _ ⟨put_ T 11 (.slice (some ⟨wr.heap.size, 0, none⟩) 1 1), by simp [put_, e10], DW.step (later := [(14, (w5.setCell ⟨wb, ω1, none⟩ (.slice A5 (steps1.length + 1) k5))), (12, w5)]) HR.out _ hi' (by simp; exact ⟨hz, hz1⟩) (fun _ => rfl)⟩
                    · have d9 := ready_dep hr 9 (by kernel_rfl)
                      have e9 : T 9 = .slice VA1 steps1.length vc1 := hR.val 9 (by decide) d9
                      have d11 := ready_dep hr 11 (by kernel_rfl)
                      have e11 : T 11 = .slice (some ⟨wr.heap.size, 0, none⟩) 1 1 := hR.val 11 (by decide) d11
                      have hz : ¬ Up L 14 := fun x => hn (hcl 14 12 x (by kernel_rfl))
                      obtain rfl := hR.ahead (later := [(14, (w5.setCell ⟨wb, ω1, none⟩ (.slice A5 (steps1.length + 1) k5)))]) (by simp; exact hz) hn d11
                      refine wpOp_step rfl (fun K hK => ?_)
                      have HK := Lib.hid hK
                      have HR := Lib.hid hR
                      clear hK hR hr hcl d9 d11
                      have hrn : (Builtin.append_ #[43, 43] 43 #[.slice VA1 steps1.length vc1, .slice (some ⟨wr.heap.size, 0, none⟩) 1 1]).run Try.prog (wr.drew.alloc (.cells #[.int .i64 yb, .slice PA parts.length pc] 70)) = .ok (.slice A5 (steps1.length + 1) k5) w5 := hrun
                      refine step_append_told (by rfl) (.tmp 150) (.tmp 152) 43 (by rfl) _ _ _ (show T 9 = _ from e9) (show T 11 = _ from e11) hrn ?_
                      exact HK.out _ _ ⟨put_ T 12 (.slice A5 (steps1.length + 1) k5), by simp [put_, Act.put, e9, e11], DW.step (later := [(14, (w5.setCell ⟨wb, ω1, none⟩ (.slice A5 (steps1.length + 1) k5)))]) HR.out _ hi' (by simp; exact hz) (fun _ => rfl)⟩
                    · have d1 := ready_dep hr 1 (by kernel_rfl)
                      have e1 : T 1 = .slice (some ⟨wb, 0, none⟩) waves.length wq := hR.val 1 (by decide) d1
                      have d3 := ready_dep hr 3 (by kernel_rfl)
                      have e3 : T 3 = .int .i64 (ω1 : Int) := hR.val 3 (by decide) d3
                      refine wpOp_step rfl (fun K hK => ?_)
                      have HK := Lib.hid hK
                      have HR := Lib.hid hR
                      clear hK hR hr hcl d1 d3
                      go_simp
                      exact HK.out _ _ ⟨put_ T 13 (.pointer (some ⟨wb, ω1, none⟩)), by simp [put_, e1, e3], HR.out.same 13 _ hi' (by simp) rfl⟩
                    · have d12 := ready_dep hr 12 (by kernel_rfl)
                      have e12 : T 12 = .slice A5 (steps1.length + 1) k5 := hR.val 12 (by decide) d12
                      have d13 := ready_dep hr 13 (by kernel_rfl)
                      have e13 : T 13 = .pointer (some ⟨wb, ω1, none⟩) := hR.val 13 (by decide) d13
                      obtain rfl := hR.ahead (later := []) (by simp) hn d12
                      have f0 := cv2
                      have f1 := zv2
                      refine wpOp_step rfl (fun K hK => ?_)
                      have HK := Lib.hid hK
                      have HR := Lib.hid hR
                      clear hK hR hr hcl d12 d13
                      go_simp
                      exact HK.out _ _ ⟨put_ T 14 undef, by simp [put_, e12, e13], DW.step (later := []) HR.out _ hi' (by simp) (fun h => absurd h (by decide))⟩
                · have hd3 : decide (ω1 < waves.length) = false := decide_eq_false hl3
                  have HEV : Hid (∀ wf : World, wr.heap.size ≤ wf.heap.size → (∀ b, pb + 3 ≤ b → wf.heap[b]? = wr.heap[b]?) → ∃ q : PlV, PlOk wf wf.heap.size q ∧ q.cells = PlV.cells ⟨n, SA, sc, stash, (some ⟨wb, 0, none⟩), wq, waves⟩ ∧ Sml q (M + 1) 64) := Lib.hid (fun wf hs hk => by
                    obtain ⟨q, h1, h2, h3⟩ := HO5.out.turned (HTR.out.trans (Trn.box hs hk)) HBI.out.1 HBI.out.2.1 HBI.out.2.2
                    exact ⟨q, h1, h2, (h3 _ _ HSM.out).more (by omega)⟩)
                  have c0 : wr.cell? ⟨qb, 0, none⟩ = some (.int .i64 n) := cell_of_row _ _ 0 _ 32 (0, 0) HZ.out.1
                  have c1 : wr.cell? ⟨qb, 1, none⟩ = some (.slice SA stash.length sc) := cell_of_row _ _ 1 _ 32 (0, 0) HZ.out.1
                  have c2 : wr.cell? ⟨qb, 2, none⟩ = some (.slice (some ⟨wb, 0, none⟩) waves.length wq) := cell_of_row _ _ 2 _ 32 (0, 0) HZ.out.1
                  have k0_ : wr.cell? ⟨pb + 1, 0, none⟩ = some (.int .i64 3) := cell_of_row _ _ 0 _ 62 (0, 0) HZ.out.2.2.1
                  have p0 : wr.cell? ⟨pb + 2, 0, none⟩ = some (.int .i64 0) := cell_of_row _ _ 0 _ 32 (0, 0) HZ.out.2.1
                  have p1 : wr.cell? ⟨pb + 2, 1, none⟩ = some (.slice none 0 0) := cell_of_row _ _ 1 _ 32 (0, 0) HZ.out.2.1
                  have p2 : wr.cell? ⟨pb + 2, 2, none⟩ = some (.slice none 0 0) := cell_of_row _ _ 2 _ 32 (0, 0) HZ.out.2.1
                  have z0 : wr.frozen? ⟨pb + 2, 0, none⟩ = false := frozen_of_row _ _ 0 _ _ HZ.out.2.1
                  have z1 : wr.frozen? ⟨pb + 2, 1, none⟩ = false := frozen_of_row _ _ 1 _ _ HZ.out.2.1
                  have z2 : wr.frozen? ⟨pb + 2, 2, none⟩ = false := frozen_of_row _ _ 2 _ _ HZ.out.2.1
                  go_wp2_with fail
                  have hh := three_heap HZ.out.2.1 (.int .i64 n) (.slice SA stash.length sc) (.slice (some ⟨wb, 0, none⟩) waves.length wq)
                  have hsame : ∀ b, pb + 3 ≤ b → (((wr.setCell ⟨pb + 2, 0, none⟩ (.int .i64 n)).setCell ⟨pb + 2, 1, none⟩ (.slice SA stash.length sc)).setCell ⟨pb + 2, 2, none⟩ (.slice (some ⟨wb, 0, none⟩) waves.length wq)).heap[b]? = wr.heap[b]? := fun b hb => by
                    rw [heap_setCell_other _ _ _ _ (by simp only; omega), heap_setCell_other _ _ _ _ (by simp only; omega), heap_setCell_other _ _ _ _ (by simp only; omega)]
                  have hws : wr.heap.size ≤ (((wr.setCell ⟨pb + 2, 0, none⟩ (.int .i64 n)).setCell ⟨pb + 2, 1, none⟩ (.slice SA stash.length sc)).setCell ⟨pb + 2, 2, none⟩ (.slice (some ⟨wb, 0, none⟩) waves.length wq)).heap.size := by simp
                  have hbel : Below pb w (((wr.setCell ⟨pb + 2, 0, none⟩ (.int .i64 n)).setCell ⟨pb + 2, 1, none⟩ (.slice SA stash.length sc)).setCell ⟨pb + 2, 2, none⟩ (.slice (some ⟨wb, 0, none⟩) waves.length wq)) := ((HZ.out.2.2.2.setCell (p := ⟨pb + 2, 0, none⟩) (by simp) _).setCell (p := ⟨pb + 2, 1, none⟩) (by simp) _).setCell (p := ⟨pb + 2, 2, none⟩) (by simp) _
                  show bodyPost _ _ _ _ _ (((wr.setCell ⟨pb + 2, 0, none⟩ (.int .i64 n)).setCell ⟨pb + 2, 1, none⟩ (.slice SA stash.length sc)).setCell ⟨pb + 2, 2, none⟩ (.slice (some ⟨wb, 0, none⟩) waves.length wq))
                  obtain ⟨wf, hwf⟩ : ∃ wf, wf = (((wr.setCell ⟨pb + 2, 0, none⟩ (.int .i64 n)).setCell ⟨pb + 2, 1, none⟩ (.slice SA stash.length sc)).setCell ⟨pb + 2, 2, none⟩ (.slice (some ⟨wb, 0, none⟩) waves.length wq)) := ⟨_, rfl⟩
                  rw [← hwf] at hh hsame hws hbel
                  rw [← hwf]
                  clear hwf
                  have e0 : wf.cell? ⟨pb + 2, 0, none⟩ = some (.int .i64 n) := cell_of_row _ _ 0 _ 32 (0, 0) hh
                  have e1 : wf.cell? ⟨pb + 2, 1, none⟩ = some (.slice SA stash.length sc) := cell_of_row _ _ 1 _ 32 (0, 0) hh
                  have e2 : wf.cell? ⟨pb + 2, 2, none⟩ = some (.slice (some ⟨wb, 0, none⟩) waves.length wq) := cell_of_row _ _ 2 _ 32 (0, 0) hh
                  refine bodyPost_ret (v := .agg #[.int .i64 n, .slice SA stash.length sc, .slice (some ⟨wb, 0, none⟩) waves.length wq]) (by simp [results, Try.results31, go_sem, e0, e1, e2]) rfl ?_
                  obtain rfl := HPB.out
                  exact ⟨⟨⟨n, SA, sc, stash, (some ⟨wb, 0, none⟩), wq, waves⟩, rfl, fun wf2 hs hk => HEV.out wf2 (by omega) (fun b hb => (hk b (by omega)).trans (hsame b hb))⟩, hbel⟩
              · by_cases e4 : how = 4
                · subst e4
                  exact absurd H3.out (by decide)
                · have f0 : (how == 0) = false := by simpa using e0
                  have f1 : (how == 1) = false := by simpa using e1
                  have f2 : (how == 2) = false := by simpa using e2
                  have f3 : (how == 3) = false := by simpa using e3
                  have f4 : (how == 4) = false := by simpa using e4
                  exact absurd H3.out e3
end Go.Proofs.Yteceephenfmdoaa
