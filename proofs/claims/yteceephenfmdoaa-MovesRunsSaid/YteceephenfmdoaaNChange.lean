/-
  octavolaw20's changed: a plan with a change reads as some plan, hardly larger.
-/
import Derived.Test.YteceephenfmdoaaKOwnp
import Derived.Test.YteceephenfmdoaaNCopy
import Derived.Test.YteceephenfmdoaaMBytes
import Derived.Test.YteceephenfmdoaaKDraw
namespace Go.Proofs.Yteceephenfmdoaa
open Go.RowKit
set_option maxRecDepth 100000 in
set_option maxHeartbeats 8000000 in
theorem changed_rest (p : PlV) (how wave at_ by_ : Int) (M : Nat) (w : World) (hP : PlOk w w.heap.size p) (hS : Sml p M 64) (hM : M ≤ 1000) (h0 : I64 how) (h3w : ¬ how = 3) (h1 : I64 wave) (h2 : I64 at_) (h3 : I64 by_) :
    Calls Try.prog 31 #[.agg p.cells, .agg #[.int .i64 how, .int .i64 wave, .int .i64 at_, .int .i64 by_]] w fun e w' => (∃ q0 : PlV, e = .returned (.agg q0.cells) ∧ ∀ wf : World, w'.heap.size ≤ wf.heap.size → (∀ b, w.heap.size ≤ b → wf.heap[b]? = w'.heap[b]?) → ∃ q : PlV, PlOk wf wf.heap.size q ∧ q.cells = q0.cells ∧ Sml q (M + 1) 64) ∧ Below w.heap.size w w' := by
  obtain ⟨j0, ji, jz0, jz1, jz2⟩ := info_parts info70
  have H3 := Lib.hid h3w
  clear h3w
  unfold I64 at h0 h1 h2 h3
  have HP := Lib.hid hP
  have HSP := Lib.hid hS
  clear hP hS
  obtain ⟨n0, SA0, sc0, stash0, WA0, wq0, waves0⟩ := p
  unfold PlV.cells
  simp only
  go_enter Try.func31, Try.ntmps31
  go_wp2_with fail
  have x1 : (((w.alloc (.cells #[.int .i64 n0, .slice SA0 stash0.length sc0, .slice WA0 waves0.length wq0] 32)).alloc (.cells #[.int .i64 how, .int .i64 wave, .int .i64 at_, .int .i64 by_] 62)).alloc (.cells #[.int .i64 0, .slice none 0 0, .slice none 0 0] 32)).heap[w.heap.size + 1]? = some (.cells #[.int .i64 how, .int .i64 wave, .int .i64 at_, .int .i64 by_] 62 (0, 0)) := by
    have h := heap_alloc_new (w.alloc (.cells #[.int .i64 n0, .slice SA0 stash0.length sc0, .slice WA0 waves0.length wq0] 32)) (.cells #[.int .i64 how, .int .i64 wave, .int .i64 at_, .int .i64 by_] 62)
    have e : (w.alloc (.cells #[.int .i64 n0, .slice SA0 stash0.length sc0, .slice WA0 waves0.length wq0] 32)).heap.size = w.heap.size + 1 := by simp
    rw [e] at h
    exact (heap_alloc_old _ _ (by simp)).trans h
  have x2 : (((w.alloc (.cells #[.int .i64 n0, .slice SA0 stash0.length sc0, .slice WA0 waves0.length wq0] 32)).alloc (.cells #[.int .i64 how, .int .i64 wave, .int .i64 at_, .int .i64 by_] 62)).alloc (.cells #[.int .i64 0, .slice none 0 0, .slice none 0 0] 32)).heap[w.heap.size + 1 + 1]? = some (.cells #[.int .i64 0, .slice none 0 0, .slice none 0 0] 32 (0, 0)) := by
    have h := heap_alloc_new ((w.alloc (.cells #[.int .i64 n0, .slice SA0 stash0.length sc0, .slice WA0 waves0.length wq0] 32)).alloc (.cells #[.int .i64 how, .int .i64 wave, .int .i64 at_, .int .i64 by_] 62)) (.cells #[.int .i64 0, .slice none 0 0, .slice none 0 0] 32)
    have e : ((w.alloc (.cells #[.int .i64 n0, .slice SA0 stash0.length sc0, .slice WA0 waves0.length wq0] 32)).alloc (.cells #[.int .i64 how, .int .i64 wave, .int .i64 at_, .int .i64 by_] 62)).heap.size = w.heap.size + 1 + 1 := by simp
    rw [e] at h
    exact h
  have hb3 : Below w.heap.size w (((w.alloc (.cells #[.int .i64 n0, .slice SA0 stash0.length sc0, .slice WA0 waves0.length wq0] 32)).alloc (.cells #[.int .i64 how, .int .i64 wave, .int .i64 at_, .int .i64 by_] 62)).alloc (.cells #[.int .i64 0, .slice none 0 0, .slice none 0 0] 32)) := (((Below.refl _ _).alloc (Nat.le_refl _) _).alloc (by simp) _).alloc (by simp; omega) _
  have hz3 : (((w.alloc (.cells #[.int .i64 n0, .slice SA0 stash0.length sc0, .slice WA0 waves0.length wq0] 32)).alloc (.cells #[.int .i64 how, .int .i64 wave, .int .i64 at_, .int .i64 by_] 62)).alloc (.cells #[.int .i64 0, .slice none 0 0, .slice none 0 0] 32)).heap.size = w.heap.size + 3 := by simp
  have HX1 := Lib.hid x1; have HX2 := Lib.hid x2; have HB3 := Lib.hid hb3
  have HP3 : Hid (PlOk (((w.alloc (.cells #[.int .i64 n0, .slice SA0 stash0.length sc0, .slice WA0 waves0.length wq0] 32)).alloc (.cells #[.int .i64 how, .int .i64 wave, .int .i64 at_, .int .i64 by_] 62)).alloc (.cells #[.int .i64 0, .slice none 0 0, .slice none 0 0] 32)) (((w.alloc (.cells #[.int .i64 n0, .slice SA0 stash0.length sc0, .slice WA0 waves0.length wq0] 32)).alloc (.cells #[.int .i64 how, .int .i64 wave, .int .i64 at_, .int .i64 by_] 62)).alloc (.cells #[.int .i64 0, .slice none 0 0, .slice none 0 0] 32)).heap.size ⟨n0, SA0, sc0, stash0, WA0, wq0, waves0⟩) := Lib.hid (HP.out.up hb3)
  clear x1 x2 hb3
  generalize ((w.alloc (.cells #[.int .i64 n0, .slice SA0 stash0.length sc0, .slice WA0 waves0.length wq0] 32)).alloc (.cells #[.int .i64 how, .int .i64 wave, .int .i64 at_, .int .i64 by_] 62)).alloc (.cells #[.int .i64 0, .slice none 0 0, .slice none 0 0] 32) = W3 at *
  have hqb : w.heap.size + 1 + 1 = w.heap.size + 2 := by omega
  rw [hqb] at HX2
  try rw [hqb]
  generalize hpb : w.heap.size = pb at *
  have HPB := Lib.hid hpb
  clear hpb hqb
  refine (Copy_plan ⟨n0, SA0, sc0, stash0, WA0, wq0, waves0⟩ W3 HP3.out (by have := HSP.out.1; simp only at this ⊢; omega) (by have := HSP.out.2.1; simp only at this ⊢; omega) (fun v hv => ⟨by have := (HSP.out.2.2 v hv).1; omega, fun s hs => by have := (HSP.out.2.2 v hv).2 s hs; omega⟩)).mono ?_
  rintro e w4 ⟨⟨q, rfl, hqe, hqo⟩, hb4⟩
  have hpk := hqo.ok_of hqe HP3.out
  have HBI : Hid ((∀ v ∈ q.waves, ∀ s ∈ v.steps, I64 s.blk) ∧ IR q.stash ∧ I64 q.size) := Lib.hid ⟨fun v hv s hs => by
    obtain ⟨k, hk⟩ := List.getElem?_of_mem hv
    obtain ⟨j, hj⟩ := List.getElem?_of_mem hs
    obtain ⟨_, _, _, _, _, hwv⟩ := hpk.wv k v hk
    obtain ⟨_, _, _, _, _, _, hst⟩ := hwv.rd j s hj
    exact hst.b, hpk.si, hpk.sz⟩
  have HSM : Hid (Sml q M 64) := Lib.hid (by
    have h := hqe
    simp only [PlV.pln, Pln.mk.injEq] at h
    refine ⟨by rw [h.2.1]; exact HSP.out.1, by have e := congrArg List.length h.2.2; simp at e; rw [e]; exact HSP.out.2.1, fun v hv => ?_⟩
    have e1 : v.wv ∈ waves0.map WvV.wv := by rw [← h.2.2]; exact List.mem_map.2 ⟨v, hv, rfl⟩
    obtain ⟨v', hv', ev⟩ := List.mem_map.1 e1
    have hm := HSP.out.2.2 v' hv'
    refine ⟨by have e := congrArg List.length ev; simp [WvV.wv] at e; omega, fun s hs => ?_⟩
    have e2 : s.st ∈ v'.wv := by rw [ev]; exact List.mem_map.2 ⟨s, hs, rfl⟩
    obtain ⟨s', hs', es⟩ := List.mem_map.1 e2
    have e3 : s'.parts = s.parts := congrArg Prod.snd es
    rw [← e3]
    exact hm.2 s' hs')
  have hsz4 : pb + 3 ≤ w4.heap.size := by have := hb4.size; omega
  have HO5 : Hid (OwnP (w4.alloc (.cells q.cells 32)) (pb + 3) q) := Lib.hid (by
    rw [← hz3]
    exact hqo.below ((Below.refl w4.heap.size w4).alloc (Nat.le_refl _) _) (Nat.le_refl _))
  have hb34 : Below pb w w4 := HB3.out.trans (hb4.mono (by omega))
  have HZ : Hid ((w4.alloc (.cells q.cells 32)).heap[w4.heap.size]? = some (.cells q.cells 32 (0, 0)) ∧ (w4.alloc (.cells q.cells 32)).heap[pb + 2]? = some (.cells #[.int .i64 0, .slice none 0 0, .slice none 0 0] 32 (0, 0)) ∧ (w4.alloc (.cells q.cells 32)).heap[pb + 1]? = some (.cells #[.int .i64 how, .int .i64 wave, .int .i64 at_, .int .i64 by_] 62 (0, 0)) ∧ Below pb w (w4.alloc (.cells q.cells 32))) :=
    Lib.hid ⟨heap_alloc_new _ _, (heap_alloc_old _ _ (by omega)).trans ((hb4.block (pb + 2) (by omega)).trans HX2.out), (heap_alloc_old _ _ (by omega)).trans ((hb4.block (pb + 1) (by omega)).trans HX1.out), hb34.alloc (by omega) _⟩
  clear hqe hqo hb4 hb34 hpk HX1 HX2 HB3 HP3 HP HSP hz3
  obtain ⟨n, SA, sc, stash, WA, wq, waves⟩ := q
  unfold PlV.cells at *
  simp only at *
  have hqw : w4.heap.size < (w4.alloc (.cells #[.int .i64 n, .slice SA stash.length sc, .slice WA waves.length wq] 32)).heap.size := by simp
  have hqlo : pb + 3 ≤ w4.heap.size := hsz4
  by_cases h5 : how = 5
  · subst h5
    by_cases hl0 : stash.length = 0
    · have hg5 : decide (0 < stash.length) = false := decide_eq_false (by omega)
      clear hl0
      go_upto_region 2 with (fail)
      generalize w4.alloc (.cells #[.int .i64 n, .slice SA stash.length sc, .slice WA waves.length wq] 32) = wr at *
      generalize w4.heap.size = qb at *
      obtain ⟨W5, hW5⟩ : ∃ W5, W5 = wr := ⟨_, rfl⟩
      have HTR : Hid (Trn W5 wr (pb + 3)) := Lib.hid (by rw [hW5]; exact Trn.refl _ _)
      have HOE := HO5
      rw [← hW5] at HO5
      clear hW5
      have k0 : wr.cell? ⟨pb + 1, 0, none⟩ = some (.int .i64 5) := cell_of_row _ _ 0 _ 62 (0, 0) HZ.out.2.2.1
      have c1 : wr.cell? ⟨qb, 1, none⟩ = some (.slice SA stash.length sc) := cell_of_row _ _ 1 _ 32 (0, 0) HZ.out.1
      have k1 : wr.cell? ⟨pb + 1, 1, none⟩ = some (.int .i64 wave) := cell_of_row _ _ 1 _ 62 (0, 0) HZ.out.2.2.1
      have c2 : wr.cell? ⟨qb, 2, none⟩ = some (.slice WA waves.length wq) := cell_of_row _ _ 2 _ 32 (0, 0) HZ.out.1
      have k2 : wr.cell? ⟨pb + 1, 2, none⟩ = some (.int .i64 at_) := cell_of_row _ _ 2 _ 62 (0, 0) HZ.out.2.2.1
      have hwm : waves.length ≤ 100000 := HSM.out.2.1
      by_cases hw0 : waves.length = 0
      · have g0 : ((waves.length : Int) == 0) = true := beq_iff_eq.2 (by omega)
        clear hw0
        have HEV : Hid (∀ wf : World, wr.heap.size ≤ wf.heap.size → (∀ b, pb + 3 ≤ b → wf.heap[b]? = wr.heap[b]?) → ∃ q : PlV, PlOk wf wf.heap.size q ∧ q.cells = PlV.cells ⟨n, SA, sc, stash, WA, wq, waves⟩ ∧ Sml q (M + 1) 64) := Lib.hid (fun wf hs hk => by
          obtain ⟨q, h1, h2, h3⟩ := HO5.out.turned (HTR.out.trans (Trn.box hs hk)) HBI.out.1 HBI.out.2.1 HBI.out.2.2
          exact ⟨q, h1, h2, (h3 _ _ HSM.out).more (by omega)⟩)
        clear k0 k1 c1 c2
        have c0 : wr.cell? ⟨qb, 0, none⟩ = some (.int .i64 n) := cell_of_row _ _ 0 _ 32 (0, 0) HZ.out.1
        have c1 : wr.cell? ⟨qb, 1, none⟩ = some (.slice SA stash.length sc) := cell_of_row _ _ 1 _ 32 (0, 0) HZ.out.1
        have c2 : wr.cell? ⟨qb, 2, none⟩ = some (.slice WA waves.length wq) := cell_of_row _ _ 2 _ 32 (0, 0) HZ.out.1
        have k0 : wr.cell? ⟨pb + 1, 0, none⟩ = some (.int .i64 5) := cell_of_row _ _ 0 _ 62 (0, 0) HZ.out.2.2.1
        have p0 : wr.cell? ⟨pb + 2, 0, none⟩ = some (.int .i64 0) := cell_of_row _ _ 0 _ 32 (0, 0) HZ.out.2.1
        have p1 : wr.cell? ⟨pb + 2, 1, none⟩ = some (.slice none 0 0) := cell_of_row _ _ 1 _ 32 (0, 0) HZ.out.2.1
        have p2 : wr.cell? ⟨pb + 2, 2, none⟩ = some (.slice none 0 0) := cell_of_row _ _ 2 _ 32 (0, 0) HZ.out.2.1
        have z0 : wr.frozen? ⟨pb + 2, 0, none⟩ = false := frozen_of_row _ _ 0 _ _ HZ.out.2.1
        have z1 : wr.frozen? ⟨pb + 2, 1, none⟩ = false := frozen_of_row _ _ 1 _ _ HZ.out.2.1
        have z2 : wr.frozen? ⟨pb + 2, 2, none⟩ = false := frozen_of_row _ _ 2 _ _ HZ.out.2.1
        go_wp2_with fail
        have hh := three_heap HZ.out.2.1 (.int .i64 n) (.slice SA stash.length sc) (.slice WA waves.length wq)
        have hsame : ∀ b, pb + 3 ≤ b → (((wr.setCell ⟨pb + 2, 0, none⟩ (.int .i64 n)).setCell ⟨pb + 2, 1, none⟩ (.slice SA stash.length sc)).setCell ⟨pb + 2, 2, none⟩ (.slice WA waves.length wq)).heap[b]? = wr.heap[b]? := fun b hb => by
          rw [heap_setCell_other _ _ _ _ (by simp only; omega), heap_setCell_other _ _ _ _ (by simp only; omega), heap_setCell_other _ _ _ _ (by simp only; omega)]
        have hws : wr.heap.size ≤ (((wr.setCell ⟨pb + 2, 0, none⟩ (.int .i64 n)).setCell ⟨pb + 2, 1, none⟩ (.slice SA stash.length sc)).setCell ⟨pb + 2, 2, none⟩ (.slice WA waves.length wq)).heap.size := by simp
        have hbel : Below pb w (((wr.setCell ⟨pb + 2, 0, none⟩ (.int .i64 n)).setCell ⟨pb + 2, 1, none⟩ (.slice SA stash.length sc)).setCell ⟨pb + 2, 2, none⟩ (.slice WA waves.length wq)) := ((HZ.out.2.2.2.setCell (p := ⟨pb + 2, 0, none⟩) (by simp) _).setCell (p := ⟨pb + 2, 1, none⟩) (by simp) _).setCell (p := ⟨pb + 2, 2, none⟩) (by simp) _
        show bodyPost _ _ _ _ _ (((wr.setCell ⟨pb + 2, 0, none⟩ (.int .i64 n)).setCell ⟨pb + 2, 1, none⟩ (.slice SA stash.length sc)).setCell ⟨pb + 2, 2, none⟩ (.slice WA waves.length wq))
        obtain ⟨wf, hwf⟩ : ∃ wf, wf = (((wr.setCell ⟨pb + 2, 0, none⟩ (.int .i64 n)).setCell ⟨pb + 2, 1, none⟩ (.slice SA stash.length sc)).setCell ⟨pb + 2, 2, none⟩ (.slice WA waves.length wq)) := ⟨_, rfl⟩
        rw [← hwf] at hh hsame hws hbel
        rw [← hwf]
        clear hwf
        have e0 : wf.cell? ⟨pb + 2, 0, none⟩ = some (.int .i64 n) := cell_of_row _ _ 0 _ 32 (0, 0) hh
        have e1 : wf.cell? ⟨pb + 2, 1, none⟩ = some (.slice SA stash.length sc) := cell_of_row _ _ 1 _ 32 (0, 0) hh
        have e2 : wf.cell? ⟨pb + 2, 2, none⟩ = some (.slice WA waves.length wq) := cell_of_row _ _ 2 _ 32 (0, 0) hh
        refine bodyPost_ret (v := .agg #[.int .i64 n, .slice SA stash.length sc, .slice WA waves.length wq]) (by simp [results, Try.results31, go_sem, e0, e1, e2]) rfl ?_
        obtain rfl := HPB.out
        exact ⟨⟨⟨n, SA, sc, stash, WA, wq, waves⟩, rfl, fun wf2 hs hk => HEV.out wf2 (by omega) (fun b hb => (hk b (by omega)).trans (hsame b hb))⟩, hbel⟩
      · obtain ⟨ω, hω⟩ : ∃ ω : Nat, wave % (waves.length : Int) = (ω : Int) := Int.eq_ofNat_of_zero_le (Int.emod_nonneg wave (by omega))
        have hωl : ω < waves.length := by have h := Int.emod_lt_of_pos wave (show (0 : Int) < waves.length by omega); rw [hω] at h; omega
        have f0 : ((waves.length : Int) == 0) = false := beq_eq_false_iff_ne.2 (by omega)
        go_wp2_with fail
        refine (Pick_any wave waves.length wr (by omega) (by omega) h1.1 h1.2).mono ?_
        rw [hω]
        rintro e w' ⟨rfl, rfl⟩
        clear k1 hω f0
        obtain ⟨v, hv⟩ := Sc.get_some waves ω hωl
        obtain ⟨wb, hWA, hwb, w0⟩ := HO5.out.wv.cellAt hv
        simp only at hWA w0
        subst hWA
        have hwlo : pb + 3 ≤ wb := (HO5.out.wv.ty (b := wb) (inA_some.2 rfl)).1
        have v0 : wr.cell? ⟨wb, ω, none⟩ = some (.slice v.A v.steps.length v.c) := HTR.out.sl ⟨wb, ω, none⟩ hwlo _ _ _ w0
        have HVO := Lib.hid (HO5.out.ws v (List.mem_of_getElem? hv))
        have HVS := Lib.hid (HSM.out.2.2 v (List.mem_of_getElem? hv))
        have HVV := Lib.hid hv
        obtain ⟨VA, vc, steps⟩ := v
        simp only at v0 HVS
        have o0 : (0 : Int) ≤ (ω : Int) := by omega
        have o1 : (ω : Int) < (waves.length : Int) := by omega
        by_cases hm0 : steps.length = 0
        · have g1 : ((steps.length : Int) == 0) = true := beq_iff_eq.2 (by omega)
          clear hm0
          have HEV : Hid (∀ wf : World, wr.heap.size ≤ wf.heap.size → (∀ b, pb + 3 ≤ b → wf.heap[b]? = wr.heap[b]?) → ∃ q : PlV, PlOk wf wf.heap.size q ∧ q.cells = PlV.cells ⟨n, SA, sc, stash, (some ⟨wb, 0, none⟩), wq, waves⟩ ∧ Sml q (M + 1) 64) := Lib.hid (fun wf hs hk => by
            obtain ⟨q, h1, h2, h3⟩ := HO5.out.turned (HTR.out.trans (Trn.box hs hk)) HBI.out.1 HBI.out.2.1 HBI.out.2.2
            exact ⟨q, h1, h2, (h3 _ _ HSM.out).more (by omega)⟩)
          clear hv w0
          have c0 : wr.cell? ⟨qb, 0, none⟩ = some (.int .i64 n) := cell_of_row _ _ 0 _ 32 (0, 0) HZ.out.1
          have c1 : wr.cell? ⟨qb, 1, none⟩ = some (.slice SA stash.length sc) := cell_of_row _ _ 1 _ 32 (0, 0) HZ.out.1
          have c2 : wr.cell? ⟨qb, 2, none⟩ = some (.slice (some ⟨wb, 0, none⟩) waves.length wq) := cell_of_row _ _ 2 _ 32 (0, 0) HZ.out.1
          have k0 : wr.cell? ⟨pb + 1, 0, none⟩ = some (.int .i64 5) := cell_of_row _ _ 0 _ 62 (0, 0) HZ.out.2.2.1
          have p0 : wr.cell? ⟨pb + 2, 0, none⟩ = some (.int .i64 0) := cell_of_row _ _ 0 _ 32 (0, 0) HZ.out.2.1
          have p1 : wr.cell? ⟨pb + 2, 1, none⟩ = some (.slice none 0 0) := cell_of_row _ _ 1 _ 32 (0, 0) HZ.out.2.1
          have p2 : wr.cell? ⟨pb + 2, 2, none⟩ = some (.slice none 0 0) := cell_of_row _ _ 2 _ 32 (0, 0) HZ.out.2.1
          have z0 : wr.frozen? ⟨pb + 2, 0, none⟩ = false := frozen_of_row _ _ 0 _ _ HZ.out.2.1
          have z1 : wr.frozen? ⟨pb + 2, 1, none⟩ = false := frozen_of_row _ _ 1 _ _ HZ.out.2.1
          have z2 : wr.frozen? ⟨pb + 2, 2, none⟩ = false := frozen_of_row _ _ 2 _ _ HZ.out.2.1
          go_wp2_with fail
          have hh := three_heap HZ.out.2.1 (.int .i64 n) (.slice SA stash.length sc) (.slice (some ⟨wb, 0, none⟩) waves.length wq)
          have hsame : ∀ b, pb + 3 ≤ b → (((wr.setCell ⟨pb + 2, 0, none⟩ (.int .i64 n)).setCell ⟨pb + 2, 1, none⟩ (.slice SA stash.length sc)).setCell ⟨pb + 2, 2, none⟩ (.slice (some ⟨wb, 0, none⟩) waves.length wq)).heap[b]? = wr.heap[b]? := fun b hb => by
            rw [heap_setCell_other _ _ _ _ (by simp only; omega), heap_setCell_other _ _ _ _ (by simp only; omega), heap_setCell_other _ _ _ _ (by simp only; omega)]
          have hws : wr.heap.size ≤ (((wr.setCell ⟨pb + 2, 0, none⟩ (.int .i64 n)).setCell ⟨pb + 2, 1, none⟩ (.slice SA stash.length sc)).setCell ⟨pb + 2, 2, none⟩ (.slice (some ⟨wb, 0, none⟩) waves.length wq)).heap.size := by simp
          have hbel : Below pb w (((wr.setCell ⟨pb + 2, 0, none⟩ (.int .i64 n)).setCell ⟨pb + 2, 1, none⟩ (.slice SA stash.length sc)).setCell ⟨pb + 2, 2, none⟩ (.slice (some ⟨wb, 0, none⟩) waves.length wq)) := ((HZ.out.2.2.2.setCell (p := ⟨pb + 2, 0, none⟩) (by simp) _).setCell (p := ⟨pb + 2, 1, none⟩) (by simp) _).setCell (p := ⟨pb + 2, 2, none⟩) (by simp) _
          show bodyPost _ _ _ _ _ (((wr.setCell ⟨pb + 2, 0, none⟩ (.int .i64 n)).setCell ⟨pb + 2, 1, none⟩ (.slice SA stash.length sc)).setCell ⟨pb + 2, 2, none⟩ (.slice (some ⟨wb, 0, none⟩) waves.length wq))
          obtain ⟨wf, hwf⟩ : ∃ wf, wf = (((wr.setCell ⟨pb + 2, 0, none⟩ (.int .i64 n)).setCell ⟨pb + 2, 1, none⟩ (.slice SA stash.length sc)).setCell ⟨pb + 2, 2, none⟩ (.slice (some ⟨wb, 0, none⟩) waves.length wq)) := ⟨_, rfl⟩
          rw [← hwf] at hh hsame hws hbel
          rw [← hwf]
          clear hwf
          have e0 : wf.cell? ⟨pb + 2, 0, none⟩ = some (.int .i64 n) := cell_of_row _ _ 0 _ 32 (0, 0) hh
          have e1 : wf.cell? ⟨pb + 2, 1, none⟩ = some (.slice SA stash.length sc) := cell_of_row _ _ 1 _ 32 (0, 0) hh
          have e2 : wf.cell? ⟨pb + 2, 2, none⟩ = some (.slice (some ⟨wb, 0, none⟩) waves.length wq) := cell_of_row _ _ 2 _ 32 (0, 0) hh
          refine bodyPost_ret (v := .agg #[.int .i64 n, .slice SA stash.length sc, .slice (some ⟨wb, 0, none⟩) waves.length wq]) (by simp [results, Try.results31, go_sem, e0, e1, e2]) rfl ?_
          obtain rfl := HPB.out
          exact ⟨⟨⟨n, SA, sc, stash, (some ⟨wb, 0, none⟩), wq, waves⟩, rfl, fun wf2 hs hk => HEV.out wf2 (by omega) (fun b hb => (hk b (by omega)).trans (hsame b hb))⟩, hbel⟩
        · obtain ⟨α, hα⟩ : ∃ α : Nat, at_ % (steps.length : Int) = (α : Int) := Int.eq_ofNat_of_zero_le (Int.emod_nonneg at_ (by omega))
          have hαl : α < steps.length := by have h := Int.emod_lt_of_pos at_ (show (0 : Int) < steps.length by omega); rw [hα] at h; omega
          have hsm := HVS.out.1
          have f1 : ((steps.length : Int) == 0) = false := beq_eq_false_iff_ne.2 (by omega)
          clear hv w0
          go_upto_region 9 with (fail)
          have a0 : ∀ r : Qs wr, r.1.cell? ⟨pb + 1, 2, none⟩ = some (.int .i64 at_) := fun r => r.cell k2
          have a1 : ∀ r : Qs wr, r.1.cell? ⟨qb, 2, none⟩ = some (.slice (some ⟨wb, 0, none⟩) waves.length wq) := fun r => r.cell c2
          have a2 : ∀ r : Qs wr, r.1.cell? ⟨wb, ω, none⟩ = some (.slice VA steps.length vc) := fun r => r.cell v0
          have hC : ∀ r : Qs wr, Calls Try.prog 30 #[.int .i64 at_, .int .i64 (steps.length : Int)] r.1 fun e w'' => e = .returned (.int .i64 (α : Int)) ∧ ∃ r' : Qs wr, w'' = r'.1 := fun r => r.calls_same (by
            have h := Pick_any at_ steps.length r.1 (by omega) (by omega) h2.1 h2.2
            rw [hα] at h
            exact h)
          have HK0 : Hid (wr.heap[pb + 1]? = some (.cells #[.int .i64 5, .int .i64 wave, .int .i64 at_, .int .i64 by_] 62 (0, 0))) := Lib.hid HZ.out.2.2.1
          clear k0 k2 c2 v0 hα f1
          refine wp_region_below (by kernel_rfl) (by kernel_rfl) ?_
          repeat (go_big_quiet_step (first | exact hC _))
          refine wpQuiet_nil ?_
          rintro _ ⟨r, rfl⟩
          have HZ9 : Hid (r.1.heap[qb]? = some (.cells #[.int .i64 n, .slice SA stash.length sc, .slice (some ⟨wb, 0, none⟩) waves.length wq] 32 (0, 0)) ∧ r.1.heap[pb + 2]? = some (.cells #[.int .i64 0, .slice none 0 0, .slice none 0 0] 32 (0, 0)) ∧ r.1.heap[pb + 1]? = some (.cells #[.int .i64 5, .int .i64 wave, .int .i64 at_, .int .i64 by_] 62 (0, 0)) ∧ Below pb w r.1) := Lib.hid ⟨((r.2).block qb (by omega)).trans HZ.out.1, ((r.2).block (pb + 2) (by omega)).trans HZ.out.2.1, ((r.2).block (pb + 1) (by omega)).trans HZ.out.2.2.1, HZ.out.2.2.2.trans ((r.2).mono (by omega))⟩
          have HTR9 : Hid (Trn W5 r.1 (pb + 3)) := Lib.hid (HTR.out.trans (Trn.below r.2 (Nat.le_refl _)))
          have hqw9 : qb < (r.1).heap.size := by have := (r.2).size; omega
          clear HZ HTR hqw
          have HZ := HZ9; have HTR := HTR9; have hqw := hqw9
          clear HZ9 HTR9 hqw9
          clear a0 a1 a2 hC HK0
          generalize r.1 = wr at *
          obtain ⟨s, hs⟩ := Sc.get_some steps α hαl
          obtain ⟨stb, hVA, hsb, s0, s1⟩ := HVO.out.row.cellAt hs
          simp only at hVA
          subst hVA
          have hslo : pb + 3 ≤ stb := (HVO.out.row.ty (b := stb) (inA_some.2 rfl)).1
          obtain ⟨yb, t0, hyb0⟩ := HTR.out.int ⟨stb, α * 2, none⟩ hslo _ s0
          have HYB : Hid (I64 yb) := Lib.hid (hyb0 (HBI.out.1 _ (List.mem_of_getElem? HVV.out) s (List.mem_of_getElem? hs)))
          clear hyb0
          have t1 := HTR.out.sl ⟨stb, α * 2 + 1, none⟩ hslo _ _ _ s1
          have w0 := HO5.out.wv.cellAt HVV.out
          obtain ⟨wb', ewb, _, w0⟩ := w0
          simp only [Option.some.injEq, Addr.mk.injEq, and_true] at ewb
          subst ewb
          have v0 : wr.cell? ⟨wb, ω, none⟩ = some (.slice (some ⟨stb, 0, none⟩) steps.length vc) := HTR.out.sl ⟨wb, ω, none⟩ hwlo _ _ _ w0
          have HPO := Lib.hid (HVO.out.parts s (List.mem_of_getElem? hs))
          have HPS := Lib.hid (HVS.out.2 s (List.mem_of_getElem? hs))
          have HSS := Lib.hid hs
          obtain ⟨blk, PA, pc, parts⟩ := s
          simp only at t1 HPO HPS
          have c2 : wr.cell? ⟨qb, 2, none⟩ = some (.slice (some ⟨wb, 0, none⟩) waves.length wq) := cell_of_row _ _ 2 _ 32 (0, 0) HZ.out.1
          have k3 : wr.cell? ⟨pb + 1, 3, none⟩ = some (.int .i64 by_) := cell_of_row _ _ 3 _ 62 (0, 0) HZ.out.2.2.1
          obtain ⟨π, hπe⟩ : ∃ π : Nat, π = max 1 parts.length := ⟨_, rfl⟩
          have HPE : Hid (max (1 : Int) (parts.length : Int) = (π : Int)) := Lib.hid (by omega)
          obtain ⟨κ, hκ⟩ : ∃ κ : Nat, by_ % (π : Int) = (κ : Int) := Int.eq_ofNat_of_zero_le (Int.emod_nonneg by_ (by omega))
          have hκl : κ < π := by have h := Int.emod_lt_of_pos by_ (show (0 : Int) < π by omega); rw [hκ] at h; omega
          have b1 : (wr.alloc (.cells #[.int .i64 yb, .slice PA parts.length pc] 70)).heap[wr.heap.size]? = some (.cells #[.int .i64 yb, .slice PA parts.length pc] 70 (0, 0)) := heap_alloc_new wr _
          have hal : Below wr.heap.size wr (wr.alloc (.cells #[.int .i64 yb, .slice PA parts.length pc] 70)) := (Below.refl _ _).alloc (Nat.le_refl _) _
          have HZ9 : Hid ((wr.alloc (.cells #[.int .i64 yb, .slice PA parts.length pc] 70)).heap[qb]? = some (.cells #[.int .i64 n, .slice SA stash.length sc, .slice (some ⟨wb, 0, none⟩) waves.length wq] 32 (0, 0)) ∧ (wr.alloc (.cells #[.int .i64 yb, .slice PA parts.length pc] 70)).heap[pb + 2]? = some (.cells #[.int .i64 0, .slice none 0 0, .slice none 0 0] 32 (0, 0)) ∧ (wr.alloc (.cells #[.int .i64 yb, .slice PA parts.length pc] 70)).heap[pb + 1]? = some (.cells #[.int .i64 5, .int .i64 wave, .int .i64 at_, .int .i64 by_] 62 (0, 0)) ∧ Below pb w (wr.alloc (.cells #[.int .i64 yb, .slice PA parts.length pc] 70))) := Lib.hid ⟨((hal).block qb (by omega)).trans HZ.out.1, ((hal).block (pb + 2) (by omega)).trans HZ.out.2.1, ((hal).block (pb + 1) (by omega)).trans HZ.out.2.2.1, HZ.out.2.2.2.trans ((hal).mono (by omega))⟩
          have HTR9 : Hid (Trn W5 (wr.alloc (.cells #[.int .i64 yb, .slice PA parts.length pc] 70)) (pb + 3)) := Lib.hid (HTR.out.trans (Trn.below hal (Nat.le_refl _)))
          have hqw9 : qb < ((wr.alloc (.cells #[.int .i64 yb, .slice PA parts.length pc] 70))).heap.size := by have := (hal).size; omega
          have k3' : (wr.alloc (.cells #[.int .i64 yb, .slice PA parts.length pc] 70)).cell? ⟨pb + 1, 3, none⟩ = some (.int .i64 by_) := cell_of_row _ _ 3 _ 62 (0, 0) HZ9.out.2.2.1
          have i0 : (0 : Int) ≤ (α : Int) := by omega
          have i1 : (α : Int) < (steps.length : Int) := by omega
          have HPS64 := HPS.out
          have hπ1 : 1 ≤ π ∧ π ≤ 64 ∧ (1 ≤ parts.length → π = parts.length) := by have := HPS.out; omega
          clear hs s0 s1 w0 hal hπe
          go_wp2_with fail
          rw [HPE.out]
          refine (Pick_any by_ π _ (by omega) (by omega) h3.1 h3.2).mono ?_
          rw [hκ]
          rintro e w' ⟨rfl, rfl⟩
          have HB1 := Lib.hid b1
          have hvs : wr.heap.size < (wr.alloc (.cells #[.int .i64 yb, .slice PA parts.length pc] 70)).heap.size := by simp
          have hqs : qb < wr.heap.size := hqw
          have hvlo : pb + 3 ≤ wr.heap.size := by omega
          have hsv : stb < wr.heap.size := by have := HTR.out.size; omega
          have hW5v : W5.heap.size ≤ wr.heap.size := HTR.out.size
          clear k3' b1 t0 t1 v0 c2 k3 hκ
          clear HZ HTR hqw
          have HZ := HZ9; have HTR := HTR9; have hqw := hqw9
          clear HZ9 HTR9 hqw9
          generalize wr.alloc (.cells #[.int .i64 yb, .slice PA parts.length pc] 70) = wx at *
          generalize wr.heap.size = vs at *
          generalize wx = wr at *
          have HEV : Hid (∀ wf : World, wr.heap.size ≤ wf.heap.size → (∀ b, pb + 3 ≤ b → wf.heap[b]? = wr.heap[b]?) → ∃ q : PlV, PlOk wf wf.heap.size q ∧ q.cells = PlV.cells ⟨n, SA, sc, stash, (some ⟨wb, 0, none⟩), wq, waves⟩ ∧ Sml q (M + 1) 64) := Lib.hid (fun wf hs hk => by
            obtain ⟨q, h1, h2, h3⟩ := HO5.out.turned (HTR.out.trans (Trn.box hs hk)) HBI.out.1 HBI.out.2.1 HBI.out.2.2
            exact ⟨q, h1, h2, (h3 _ _ HSM.out).more (by omega)⟩)
          have c0 : wr.cell? ⟨qb, 0, none⟩ = some (.int .i64 n) := cell_of_row _ _ 0 _ 32 (0, 0) HZ.out.1
          have c1 : wr.cell? ⟨qb, 1, none⟩ = some (.slice SA stash.length sc) := cell_of_row _ _ 1 _ 32 (0, 0) HZ.out.1
          have c2 : wr.cell? ⟨qb, 2, none⟩ = some (.slice (some ⟨wb, 0, none⟩) waves.length wq) := cell_of_row _ _ 2 _ 32 (0, 0) HZ.out.1
          have k0 : wr.cell? ⟨pb + 1, 0, none⟩ = some (.int .i64 5) := cell_of_row _ _ 0 _ 62 (0, 0) HZ.out.2.2.1
          have p0 : wr.cell? ⟨pb + 2, 0, none⟩ = some (.int .i64 0) := cell_of_row _ _ 0 _ 32 (0, 0) HZ.out.2.1
          have p1 : wr.cell? ⟨pb + 2, 1, none⟩ = some (.slice none 0 0) := cell_of_row _ _ 1 _ 32 (0, 0) HZ.out.2.1
          have p2 : wr.cell? ⟨pb + 2, 2, none⟩ = some (.slice none 0 0) := cell_of_row _ _ 2 _ 32 (0, 0) HZ.out.2.1
          have z0 : wr.frozen? ⟨pb + 2, 0, none⟩ = false := frozen_of_row _ _ 0 _ _ HZ.out.2.1
          have z1 : wr.frozen? ⟨pb + 2, 1, none⟩ = false := frozen_of_row _ _ 1 _ _ HZ.out.2.1
          have z2 : wr.frozen? ⟨pb + 2, 2, none⟩ = false := frozen_of_row _ _ 2 _ _ HZ.out.2.1
          go_wp2_with fail
          have hh := three_heap HZ.out.2.1 (.int .i64 n) (.slice SA stash.length sc) (.slice (some ⟨wb, 0, none⟩) waves.length wq)
          have hsame : ∀ b, pb + 3 ≤ b → (((wr.setCell ⟨pb + 2, 0, none⟩ (.int .i64 n)).setCell ⟨pb + 2, 1, none⟩ (.slice SA stash.length sc)).setCell ⟨pb + 2, 2, none⟩ (.slice (some ⟨wb, 0, none⟩) waves.length wq)).heap[b]? = wr.heap[b]? := fun b hb => by
            rw [heap_setCell_other _ _ _ _ (by simp only; omega), heap_setCell_other _ _ _ _ (by simp only; omega), heap_setCell_other _ _ _ _ (by simp only; omega)]
          have hws : wr.heap.size ≤ (((wr.setCell ⟨pb + 2, 0, none⟩ (.int .i64 n)).setCell ⟨pb + 2, 1, none⟩ (.slice SA stash.length sc)).setCell ⟨pb + 2, 2, none⟩ (.slice (some ⟨wb, 0, none⟩) waves.length wq)).heap.size := by simp
          have hbel : Below pb w (((wr.setCell ⟨pb + 2, 0, none⟩ (.int .i64 n)).setCell ⟨pb + 2, 1, none⟩ (.slice SA stash.length sc)).setCell ⟨pb + 2, 2, none⟩ (.slice (some ⟨wb, 0, none⟩) waves.length wq)) := ((HZ.out.2.2.2.setCell (p := ⟨pb + 2, 0, none⟩) (by simp) _).setCell (p := ⟨pb + 2, 1, none⟩) (by simp) _).setCell (p := ⟨pb + 2, 2, none⟩) (by simp) _
          show bodyPost _ _ _ _ _ (((wr.setCell ⟨pb + 2, 0, none⟩ (.int .i64 n)).setCell ⟨pb + 2, 1, none⟩ (.slice SA stash.length sc)).setCell ⟨pb + 2, 2, none⟩ (.slice (some ⟨wb, 0, none⟩) waves.length wq))
          obtain ⟨wf, hwf⟩ : ∃ wf, wf = (((wr.setCell ⟨pb + 2, 0, none⟩ (.int .i64 n)).setCell ⟨pb + 2, 1, none⟩ (.slice SA stash.length sc)).setCell ⟨pb + 2, 2, none⟩ (.slice (some ⟨wb, 0, none⟩) waves.length wq)) := ⟨_, rfl⟩
          rw [← hwf] at hh hsame hws hbel
          rw [← hwf]
          clear hwf
          have e0 : wf.cell? ⟨pb + 2, 0, none⟩ = some (.int .i64 n) := cell_of_row _ _ 0 _ 32 (0, 0) hh
          have e1 : wf.cell? ⟨pb + 2, 1, none⟩ = some (.slice SA stash.length sc) := cell_of_row _ _ 1 _ 32 (0, 0) hh
          have e2 : wf.cell? ⟨pb + 2, 2, none⟩ = some (.slice (some ⟨wb, 0, none⟩) waves.length wq) := cell_of_row _ _ 2 _ 32 (0, 0) hh
          refine bodyPost_ret (v := .agg #[.int .i64 n, .slice SA stash.length sc, .slice (some ⟨wb, 0, none⟩) waves.length wq]) (by simp [results, Try.results31, go_sem, e0, e1, e2]) rfl ?_
          obtain rfl := HPB.out
          exact ⟨⟨⟨n, SA, sc, stash, (some ⟨wb, 0, none⟩), wq, waves⟩, rfl, fun wf2 hs hk => HEV.out wf2 (by omega) (fun b hb => (hk b (by omega)).trans (hsame b hb))⟩, hbel⟩
    · clear hqlo
      go_upto_region 2 with (fail)
      generalize w4.alloc (.cells #[.int .i64 n, .slice SA stash.length sc, .slice WA waves.length wq] 32) = wr at *
      generalize w4.heap.size = qb at *
      obtain ⟨W5, hW5⟩ : ∃ W5, W5 = wr := ⟨_, rfl⟩
      have HTR : Hid (Trn W5 wr (pb + 3)) := Lib.hid (by rw [hW5]; exact Trn.refl _ _)
      have HOE := HO5
      rw [← hW5] at HO5
      clear hW5
      have hsm5 := HSM.out.1
      simp only at hsm5
      obtain ⟨ι, hι⟩ : ∃ ι : Nat, at_ % (stash.length : Int) = (ι : Int) := Int.eq_ofNat_of_zero_le (Int.emod_nonneg at_ (by omega))
      have hιl : ι < stash.length := by have h := Int.emod_lt_of_pos at_ (show (0 : Int) < stash.length by omega); rw [hι] at h; omega
      have HPA : Hid (∀ W : World, Calls Try.prog 30 #[.int .i64 at_, .int .i64 (stash.length : Int)] W fun e w' => e = .returned (.int .i64 (ι : Int)) ∧ W = w') := Lib.hid (fun W => by
        have h := Pick_any at_ stash.length W (by omega) (by omega) h2.1 h2.2
        rw [hι] at h
        exact h)
      clear hι
      obtain ⟨ξ, hξ⟩ : ∃ ξ : Int, by_ % 1000 = ξ := ⟨_, rfl⟩
      have hξ0 : 0 ≤ ξ ∧ ξ < 1000 := by have := Int.emod_nonneg by_ (show (1000 : Int) ≠ 0 by omega); have := Int.emod_lt_of_pos by_ (show (0 : Int) < 1000 by omega); omega
      have HPK : Hid (∀ W : World, Calls Try.prog 30 #[.int .i64 by_, .int .i64 1000] W fun e w' => e = .returned (.int .i64 ξ) ∧ W = w') := Lib.hid (fun W => by
        have h := Pick_any by_ 1000 W (by omega) (by omega) h3.1 h3.2
        rw [hξ] at h
        exact h)
      clear hξ
      obtain ⟨r, hr⟩ := Sc.get_some stash ι hιl
      obtain ⟨sab, soff, hSA, hsab, r0, r1⟩ := HOE.out.st.rd ι r hr
      simp only at hSA
      have hso : soff = 0 := by
        obtain ⟨g, hg, _⟩ := Own.form HOE.out.st (by simp only; omega)
        simp only [hSA] at hg
        injection hg with hg
        injection hg
      subst hso; subst hSA
      obtain ⟨hslo, _, cs67, hc67⟩ := row_in HOE.out.st.2 (b := sab) (inA_some.2 rfl)
      have hne1 : qb ≠ sab := fun e => by
        have h := HZ.out.1
        rw [e, hc67] at h
        injection h with h
        injection h with _ h _
        cases h
      have gx : wr.cell? ⟨sab, ι * 2 + 1, none⟩ = some (.int .i64 r.2) := by simpa using r1
      have zx : wr.frozen? ⟨sab, ι * 2 + 1, none⟩ = false := frozen_of_row wr sab (ι * 2 + 1) cs67 67 hc67
      have o2 : (0 : Int) ≤ (ι : Int) := by omega
      have o3 : (ι : Int) < (stash.length : Int) := by omega
      have hg5 : decide (0 < stash.length) = true := decide_eq_true (by omega)
      clear hr r0 r1 hc67 hl0
      have k0 : wr.cell? ⟨pb + 1, 0, none⟩ = some (.int .i64 5) := cell_of_row _ _ 0 _ 62 (0, 0) HZ.out.2.2.1
      have c1 : wr.cell? ⟨qb, 1, none⟩ = some (.slice (some ⟨sab, 0, none⟩) stash.length sc) := cell_of_row _ _ 1 _ 32 (0, 0) HZ.out.1
      have g0 : wr.cell? ⟨qb, 1, none⟩ = some (.slice (some ⟨sab, 0, none⟩) stash.length sc) := c1
      have m0 : (wr.setCell ⟨sab, ι * 2 + 1, none⟩ (.int .i64 ξ)).drew.cell? ⟨qb, 1, none⟩ = some (.slice (some ⟨sab, 0, none⟩) stash.length sc) := (World.cell?_setCell_far wr ⟨sab, ι * 2 + 1, none⟩ ⟨qb, 1, none⟩ _ (fun e => hne1 e.symm)).trans g0
      have g1 : wr.cell? ⟨pb + 1, 2, none⟩ = some (.int .i64 at_) := cell_of_row _ _ 2 _ 62 (0, 0) HZ.out.2.2.1
      have m1 : (wr.setCell ⟨sab, ι * 2 + 1, none⟩ (.int .i64 ξ)).drew.cell? ⟨pb + 1, 2, none⟩ = some (.int .i64 at_) := (World.cell?_setCell_far wr ⟨sab, ι * 2 + 1, none⟩ ⟨pb + 1, 2, none⟩ _ (by simp only; omega)).trans g1
      have g2 : wr.cell? ⟨pb + 1, 3, none⟩ = some (.int .i64 by_) := cell_of_row _ _ 3 _ 62 (0, 0) HZ.out.2.2.1
      have m2 : (wr.setCell ⟨sab, ι * 2 + 1, none⟩ (.int .i64 ξ)).drew.cell? ⟨pb + 1, 3, none⟩ = some (.int .i64 by_) := (World.cell?_setCell_far wr ⟨sab, ι * 2 + 1, none⟩ ⟨pb + 1, 3, none⟩ _ (by simp only; omega)).trans g2
      have HTR9 : Hid (Trn W5 (wr.setCell ⟨sab, ι * 2 + 1, none⟩ (.int .i64 ξ)).drew (pb + 3)) := Lib.hid (HTR.out.trans (Trn.set (w := wr) (lo := pb + 3) (x0 := ξ) gx (by unfold I64; omega))).drew
      have hsm9 : ∀ b, b ≠ sab → (wr.setCell ⟨sab, ι * 2 + 1, none⟩ (.int .i64 ξ)).drew.heap[b]? = wr.heap[b]? := fun b hb => heap_setCell_other wr _ _ _ hb
      have HZ9 : Hid ((wr.setCell ⟨sab, ι * 2 + 1, none⟩ (.int .i64 ξ)).drew.heap[qb]? = some (.cells #[.int .i64 n, .slice (some ⟨sab, 0, none⟩) stash.length sc, .slice WA waves.length wq] 32 (0, 0)) ∧ (wr.setCell ⟨sab, ι * 2 + 1, none⟩ (.int .i64 ξ)).drew.heap[pb + 2]? = some (.cells #[.int .i64 0, .slice none 0 0, .slice none 0 0] 32 (0, 0)) ∧ (wr.setCell ⟨sab, ι * 2 + 1, none⟩ (.int .i64 ξ)).drew.heap[pb + 1]? = some (.cells #[.int .i64 5, .int .i64 wave, .int .i64 at_, .int .i64 by_] 62 (0, 0)) ∧ Below pb w (wr.setCell ⟨sab, ι * 2 + 1, none⟩ (.int .i64 ξ)).drew) := Lib.hid ⟨(hsm9 qb hne1).trans HZ.out.1, (hsm9 (pb + 2) (by omega)).trans HZ.out.2.1, (hsm9 (pb + 1) (by omega)).trans HZ.out.2.2.1, belowDrewN (HZ.out.2.2.2.setCell (by simp only; omega) _) 1⟩
      have hqw9 : qb < (wr.setCell ⟨sab, ι * 2 + 1, none⟩ (.int .i64 ξ)).drew.heap.size := by simp; exact hqw
      clear hsm9
      go_upto_region 3 with (fail)
      go_region_held3 (fun w' => w'.cell? ⟨qb, 1, none⟩ = some (.slice (some ⟨sab, 0, none⟩) stash.length sc) ∧ w'.cell? ⟨pb + 1, 2, none⟩ = some (.int .i64 at_) ∧ w'.cell? ⟨pb + 1, 3, none⟩ = some (.int .i64 by_))
        (first | exact ⟨g0, g1, g2⟩ | exact ⟨m0, m1, m2⟩ | (go_keep; done))
        ((first | (go_at_call_of 30 (Value.int .i64 at_); refine (HPA.out _).mono ?_; rintro e w4 ⟨rfl, rfl⟩) | (go_at_call 30; refine (HPK.out _).mono ?_; rintro e w4 ⟨rfl, rfl⟩) | fail))
      all_goals
        clear gx zx k0 c1 g0 m0 g1 m1 g2 m2
        clear HZ HTR hqw HOE
        have HZ := HZ9; have HTR := HTR9; have hqw := hqw9
        clear HZ9 HTR9 hqw9
        generalize (wr.setCell ⟨sab, ι * 2 + 1, none⟩ (.int .i64 ξ)).drew = wr at *
        have k0 : wr.cell? ⟨pb + 1, 0, none⟩ = some (.int .i64 5) := cell_of_row _ _ 0 _ 62 (0, 0) HZ.out.2.2.1
        have c1 : wr.cell? ⟨qb, 1, none⟩ = some (.slice (some ⟨sab, 0, none⟩) stash.length sc) := cell_of_row _ _ 1 _ 32 (0, 0) HZ.out.1
        have k1 : wr.cell? ⟨pb + 1, 1, none⟩ = some (.int .i64 wave) := cell_of_row _ _ 1 _ 62 (0, 0) HZ.out.2.2.1
        have c2 : wr.cell? ⟨qb, 2, none⟩ = some (.slice WA waves.length wq) := cell_of_row _ _ 2 _ 32 (0, 0) HZ.out.1
        have k2 : wr.cell? ⟨pb + 1, 2, none⟩ = some (.int .i64 at_) := cell_of_row _ _ 2 _ 62 (0, 0) HZ.out.2.2.1
        have hwm : waves.length ≤ 100000 := HSM.out.2.1
        by_cases hw0 : waves.length = 0
        · have g0 : ((waves.length : Int) == 0) = true := beq_iff_eq.2 (by omega)
          clear hw0
          have HEV : Hid (∀ wf : World, wr.heap.size ≤ wf.heap.size → (∀ b, pb + 3 ≤ b → wf.heap[b]? = wr.heap[b]?) → ∃ q : PlV, PlOk wf wf.heap.size q ∧ q.cells = PlV.cells ⟨n, (some ⟨sab, 0, none⟩), sc, stash, WA, wq, waves⟩ ∧ Sml q (M + 1) 64) := Lib.hid (fun wf hs hk => by
            obtain ⟨q, h1, h2, h3⟩ := HO5.out.turned (HTR.out.trans (Trn.box hs hk)) HBI.out.1 HBI.out.2.1 HBI.out.2.2
            exact ⟨q, h1, h2, (h3 _ _ HSM.out).more (by omega)⟩)
          clear k0 k1 c1 c2
          have c0 : wr.cell? ⟨qb, 0, none⟩ = some (.int .i64 n) := cell_of_row _ _ 0 _ 32 (0, 0) HZ.out.1
          have c1 : wr.cell? ⟨qb, 1, none⟩ = some (.slice (some ⟨sab, 0, none⟩) stash.length sc) := cell_of_row _ _ 1 _ 32 (0, 0) HZ.out.1
          have c2 : wr.cell? ⟨qb, 2, none⟩ = some (.slice WA waves.length wq) := cell_of_row _ _ 2 _ 32 (0, 0) HZ.out.1
          have k0 : wr.cell? ⟨pb + 1, 0, none⟩ = some (.int .i64 5) := cell_of_row _ _ 0 _ 62 (0, 0) HZ.out.2.2.1
          have p0 : wr.cell? ⟨pb + 2, 0, none⟩ = some (.int .i64 0) := cell_of_row _ _ 0 _ 32 (0, 0) HZ.out.2.1
          have p1 : wr.cell? ⟨pb + 2, 1, none⟩ = some (.slice none 0 0) := cell_of_row _ _ 1 _ 32 (0, 0) HZ.out.2.1
          have p2 : wr.cell? ⟨pb + 2, 2, none⟩ = some (.slice none 0 0) := cell_of_row _ _ 2 _ 32 (0, 0) HZ.out.2.1
          have z0 : wr.frozen? ⟨pb + 2, 0, none⟩ = false := frozen_of_row _ _ 0 _ _ HZ.out.2.1
          have z1 : wr.frozen? ⟨pb + 2, 1, none⟩ = false := frozen_of_row _ _ 1 _ _ HZ.out.2.1
          have z2 : wr.frozen? ⟨pb + 2, 2, none⟩ = false := frozen_of_row _ _ 2 _ _ HZ.out.2.1
          go_wp2_with fail
          have hh := three_heap HZ.out.2.1 (.int .i64 n) (.slice (some ⟨sab, 0, none⟩) stash.length sc) (.slice WA waves.length wq)
          have hsame : ∀ b, pb + 3 ≤ b → (((wr.setCell ⟨pb + 2, 0, none⟩ (.int .i64 n)).setCell ⟨pb + 2, 1, none⟩ (.slice (some ⟨sab, 0, none⟩) stash.length sc)).setCell ⟨pb + 2, 2, none⟩ (.slice WA waves.length wq)).heap[b]? = wr.heap[b]? := fun b hb => by
            rw [heap_setCell_other _ _ _ _ (by simp only; omega), heap_setCell_other _ _ _ _ (by simp only; omega), heap_setCell_other _ _ _ _ (by simp only; omega)]
          have hws : wr.heap.size ≤ (((wr.setCell ⟨pb + 2, 0, none⟩ (.int .i64 n)).setCell ⟨pb + 2, 1, none⟩ (.slice (some ⟨sab, 0, none⟩) stash.length sc)).setCell ⟨pb + 2, 2, none⟩ (.slice WA waves.length wq)).heap.size := by simp
          have hbel : Below pb w (((wr.setCell ⟨pb + 2, 0, none⟩ (.int .i64 n)).setCell ⟨pb + 2, 1, none⟩ (.slice (some ⟨sab, 0, none⟩) stash.length sc)).setCell ⟨pb + 2, 2, none⟩ (.slice WA waves.length wq)) := ((HZ.out.2.2.2.setCell (p := ⟨pb + 2, 0, none⟩) (by simp) _).setCell (p := ⟨pb + 2, 1, none⟩) (by simp) _).setCell (p := ⟨pb + 2, 2, none⟩) (by simp) _
          show bodyPost _ _ _ _ _ (((wr.setCell ⟨pb + 2, 0, none⟩ (.int .i64 n)).setCell ⟨pb + 2, 1, none⟩ (.slice (some ⟨sab, 0, none⟩) stash.length sc)).setCell ⟨pb + 2, 2, none⟩ (.slice WA waves.length wq))
          obtain ⟨wf, hwf⟩ : ∃ wf, wf = (((wr.setCell ⟨pb + 2, 0, none⟩ (.int .i64 n)).setCell ⟨pb + 2, 1, none⟩ (.slice (some ⟨sab, 0, none⟩) stash.length sc)).setCell ⟨pb + 2, 2, none⟩ (.slice WA waves.length wq)) := ⟨_, rfl⟩
          rw [← hwf] at hh hsame hws hbel
          rw [← hwf]
          clear hwf
          have e0 : wf.cell? ⟨pb + 2, 0, none⟩ = some (.int .i64 n) := cell_of_row _ _ 0 _ 32 (0, 0) hh
          have e1 : wf.cell? ⟨pb + 2, 1, none⟩ = some (.slice (some ⟨sab, 0, none⟩) stash.length sc) := cell_of_row _ _ 1 _ 32 (0, 0) hh
          have e2 : wf.cell? ⟨pb + 2, 2, none⟩ = some (.slice WA waves.length wq) := cell_of_row _ _ 2 _ 32 (0, 0) hh
          refine bodyPost_ret (v := .agg #[.int .i64 n, .slice (some ⟨sab, 0, none⟩) stash.length sc, .slice WA waves.length wq]) (by simp [results, Try.results31, go_sem, e0, e1, e2]) rfl ?_
          obtain rfl := HPB.out
          exact ⟨⟨⟨n, (some ⟨sab, 0, none⟩), sc, stash, WA, wq, waves⟩, rfl, fun wf2 hs hk => HEV.out wf2 (by omega) (fun b hb => (hk b (by omega)).trans (hsame b hb))⟩, hbel⟩
        · obtain ⟨ω, hω⟩ : ∃ ω : Nat, wave % (waves.length : Int) = (ω : Int) := Int.eq_ofNat_of_zero_le (Int.emod_nonneg wave (by omega))
          have hωl : ω < waves.length := by have h := Int.emod_lt_of_pos wave (show (0 : Int) < waves.length by omega); rw [hω] at h; omega
          have f0 : ((waves.length : Int) == 0) = false := beq_eq_false_iff_ne.2 (by omega)
          go_wp2_with fail
          refine (Pick_any wave waves.length wr (by omega) (by omega) h1.1 h1.2).mono ?_
          rw [hω]
          rintro e w' ⟨rfl, rfl⟩
          clear k1 hω f0
          obtain ⟨v, hv⟩ := Sc.get_some waves ω hωl
          obtain ⟨wb, hWA, hwb, w0⟩ := HO5.out.wv.cellAt hv
          simp only at hWA w0
          subst hWA
          have hwlo : pb + 3 ≤ wb := (HO5.out.wv.ty (b := wb) (inA_some.2 rfl)).1
          have v0 : wr.cell? ⟨wb, ω, none⟩ = some (.slice v.A v.steps.length v.c) := HTR.out.sl ⟨wb, ω, none⟩ hwlo _ _ _ w0
          have HVO := Lib.hid (HO5.out.ws v (List.mem_of_getElem? hv))
          have HVS := Lib.hid (HSM.out.2.2 v (List.mem_of_getElem? hv))
          have HVV := Lib.hid hv
          obtain ⟨VA, vc, steps⟩ := v
          simp only at v0 HVS
          have o0 : (0 : Int) ≤ (ω : Int) := by omega
          have o1 : (ω : Int) < (waves.length : Int) := by omega
          by_cases hm0 : steps.length = 0
          · have g1 : ((steps.length : Int) == 0) = true := beq_iff_eq.2 (by omega)
            clear hm0
            have HEV : Hid (∀ wf : World, wr.heap.size ≤ wf.heap.size → (∀ b, pb + 3 ≤ b → wf.heap[b]? = wr.heap[b]?) → ∃ q : PlV, PlOk wf wf.heap.size q ∧ q.cells = PlV.cells ⟨n, (some ⟨sab, 0, none⟩), sc, stash, (some ⟨wb, 0, none⟩), wq, waves⟩ ∧ Sml q (M + 1) 64) := Lib.hid (fun wf hs hk => by
              obtain ⟨q, h1, h2, h3⟩ := HO5.out.turned (HTR.out.trans (Trn.box hs hk)) HBI.out.1 HBI.out.2.1 HBI.out.2.2
              exact ⟨q, h1, h2, (h3 _ _ HSM.out).more (by omega)⟩)
            clear hv w0
            have c0 : wr.cell? ⟨qb, 0, none⟩ = some (.int .i64 n) := cell_of_row _ _ 0 _ 32 (0, 0) HZ.out.1
            have c1 : wr.cell? ⟨qb, 1, none⟩ = some (.slice (some ⟨sab, 0, none⟩) stash.length sc) := cell_of_row _ _ 1 _ 32 (0, 0) HZ.out.1
            have c2 : wr.cell? ⟨qb, 2, none⟩ = some (.slice (some ⟨wb, 0, none⟩) waves.length wq) := cell_of_row _ _ 2 _ 32 (0, 0) HZ.out.1
            have k0 : wr.cell? ⟨pb + 1, 0, none⟩ = some (.int .i64 5) := cell_of_row _ _ 0 _ 62 (0, 0) HZ.out.2.2.1
            have p0 : wr.cell? ⟨pb + 2, 0, none⟩ = some (.int .i64 0) := cell_of_row _ _ 0 _ 32 (0, 0) HZ.out.2.1
            have p1 : wr.cell? ⟨pb + 2, 1, none⟩ = some (.slice none 0 0) := cell_of_row _ _ 1 _ 32 (0, 0) HZ.out.2.1
            have p2 : wr.cell? ⟨pb + 2, 2, none⟩ = some (.slice none 0 0) := cell_of_row _ _ 2 _ 32 (0, 0) HZ.out.2.1
            have z0 : wr.frozen? ⟨pb + 2, 0, none⟩ = false := frozen_of_row _ _ 0 _ _ HZ.out.2.1
            have z1 : wr.frozen? ⟨pb + 2, 1, none⟩ = false := frozen_of_row _ _ 1 _ _ HZ.out.2.1
            have z2 : wr.frozen? ⟨pb + 2, 2, none⟩ = false := frozen_of_row _ _ 2 _ _ HZ.out.2.1
            go_wp2_with fail
            have hh := three_heap HZ.out.2.1 (.int .i64 n) (.slice (some ⟨sab, 0, none⟩) stash.length sc) (.slice (some ⟨wb, 0, none⟩) waves.length wq)
            have hsame : ∀ b, pb + 3 ≤ b → (((wr.setCell ⟨pb + 2, 0, none⟩ (.int .i64 n)).setCell ⟨pb + 2, 1, none⟩ (.slice (some ⟨sab, 0, none⟩) stash.length sc)).setCell ⟨pb + 2, 2, none⟩ (.slice (some ⟨wb, 0, none⟩) waves.length wq)).heap[b]? = wr.heap[b]? := fun b hb => by
              rw [heap_setCell_other _ _ _ _ (by simp only; omega), heap_setCell_other _ _ _ _ (by simp only; omega), heap_setCell_other _ _ _ _ (by simp only; omega)]
            have hws : wr.heap.size ≤ (((wr.setCell ⟨pb + 2, 0, none⟩ (.int .i64 n)).setCell ⟨pb + 2, 1, none⟩ (.slice (some ⟨sab, 0, none⟩) stash.length sc)).setCell ⟨pb + 2, 2, none⟩ (.slice (some ⟨wb, 0, none⟩) waves.length wq)).heap.size := by simp
            have hbel : Below pb w (((wr.setCell ⟨pb + 2, 0, none⟩ (.int .i64 n)).setCell ⟨pb + 2, 1, none⟩ (.slice (some ⟨sab, 0, none⟩) stash.length sc)).setCell ⟨pb + 2, 2, none⟩ (.slice (some ⟨wb, 0, none⟩) waves.length wq)) := ((HZ.out.2.2.2.setCell (p := ⟨pb + 2, 0, none⟩) (by simp) _).setCell (p := ⟨pb + 2, 1, none⟩) (by simp) _).setCell (p := ⟨pb + 2, 2, none⟩) (by simp) _
            show bodyPost _ _ _ _ _ (((wr.setCell ⟨pb + 2, 0, none⟩ (.int .i64 n)).setCell ⟨pb + 2, 1, none⟩ (.slice (some ⟨sab, 0, none⟩) stash.length sc)).setCell ⟨pb + 2, 2, none⟩ (.slice (some ⟨wb, 0, none⟩) waves.length wq))
            obtain ⟨wf, hwf⟩ : ∃ wf, wf = (((wr.setCell ⟨pb + 2, 0, none⟩ (.int .i64 n)).setCell ⟨pb + 2, 1, none⟩ (.slice (some ⟨sab, 0, none⟩) stash.length sc)).setCell ⟨pb + 2, 2, none⟩ (.slice (some ⟨wb, 0, none⟩) waves.length wq)) := ⟨_, rfl⟩
            rw [← hwf] at hh hsame hws hbel
            rw [← hwf]
            clear hwf
            have e0 : wf.cell? ⟨pb + 2, 0, none⟩ = some (.int .i64 n) := cell_of_row _ _ 0 _ 32 (0, 0) hh
            have e1 : wf.cell? ⟨pb + 2, 1, none⟩ = some (.slice (some ⟨sab, 0, none⟩) stash.length sc) := cell_of_row _ _ 1 _ 32 (0, 0) hh
            have e2 : wf.cell? ⟨pb + 2, 2, none⟩ = some (.slice (some ⟨wb, 0, none⟩) waves.length wq) := cell_of_row _ _ 2 _ 32 (0, 0) hh
            refine bodyPost_ret (v := .agg #[.int .i64 n, .slice (some ⟨sab, 0, none⟩) stash.length sc, .slice (some ⟨wb, 0, none⟩) waves.length wq]) (by simp [results, Try.results31, go_sem, e0, e1, e2]) rfl ?_
            obtain rfl := HPB.out
            exact ⟨⟨⟨n, (some ⟨sab, 0, none⟩), sc, stash, (some ⟨wb, 0, none⟩), wq, waves⟩, rfl, fun wf2 hs hk => HEV.out wf2 (by omega) (fun b hb => (hk b (by omega)).trans (hsame b hb))⟩, hbel⟩
          · obtain ⟨α, hα⟩ : ∃ α : Nat, at_ % (steps.length : Int) = (α : Int) := Int.eq_ofNat_of_zero_le (Int.emod_nonneg at_ (by omega))
            have hαl : α < steps.length := by have h := Int.emod_lt_of_pos at_ (show (0 : Int) < steps.length by omega); rw [hα] at h; omega
            have hsm := HVS.out.1
            have f1 : ((steps.length : Int) == 0) = false := beq_eq_false_iff_ne.2 (by omega)
            clear hv w0
            go_upto_region 9 with (fail)
            have a0 : ∀ r : Qs wr, r.1.cell? ⟨pb + 1, 2, none⟩ = some (.int .i64 at_) := fun r => r.cell k2
            have a1 : ∀ r : Qs wr, r.1.cell? ⟨qb, 2, none⟩ = some (.slice (some ⟨wb, 0, none⟩) waves.length wq) := fun r => r.cell c2
            have a2 : ∀ r : Qs wr, r.1.cell? ⟨wb, ω, none⟩ = some (.slice VA steps.length vc) := fun r => r.cell v0
            have hC : ∀ r : Qs wr, Calls Try.prog 30 #[.int .i64 at_, .int .i64 (steps.length : Int)] r.1 fun e w'' => e = .returned (.int .i64 (α : Int)) ∧ ∃ r' : Qs wr, w'' = r'.1 := fun r => r.calls_same (by
              have h := Pick_any at_ steps.length r.1 (by omega) (by omega) h2.1 h2.2
              rw [hα] at h
              exact h)
            have HK0 : Hid (wr.heap[pb + 1]? = some (.cells #[.int .i64 5, .int .i64 wave, .int .i64 at_, .int .i64 by_] 62 (0, 0))) := Lib.hid HZ.out.2.2.1
            clear k0 k2 c2 v0 hα f1
            refine wp_region_below (by kernel_rfl) (by kernel_rfl) ?_
            repeat (go_big_quiet_step (first | exact hC _))
            refine wpQuiet_nil ?_
            rintro _ ⟨r, rfl⟩
            have HZ9 : Hid (r.1.heap[qb]? = some (.cells #[.int .i64 n, .slice (some ⟨sab, 0, none⟩) stash.length sc, .slice (some ⟨wb, 0, none⟩) waves.length wq] 32 (0, 0)) ∧ r.1.heap[pb + 2]? = some (.cells #[.int .i64 0, .slice none 0 0, .slice none 0 0] 32 (0, 0)) ∧ r.1.heap[pb + 1]? = some (.cells #[.int .i64 5, .int .i64 wave, .int .i64 at_, .int .i64 by_] 62 (0, 0)) ∧ Below pb w r.1) := Lib.hid ⟨((r.2).block qb (by omega)).trans HZ.out.1, ((r.2).block (pb + 2) (by omega)).trans HZ.out.2.1, ((r.2).block (pb + 1) (by omega)).trans HZ.out.2.2.1, HZ.out.2.2.2.trans ((r.2).mono (by omega))⟩
            have HTR9 : Hid (Trn W5 r.1 (pb + 3)) := Lib.hid (HTR.out.trans (Trn.below r.2 (Nat.le_refl _)))
            have hqw9 : qb < (r.1).heap.size := by have := (r.2).size; omega
            clear HZ HTR hqw
            have HZ := HZ9; have HTR := HTR9; have hqw := hqw9
            clear HZ9 HTR9 hqw9
            clear a0 a1 a2 hC HK0
            generalize r.1 = wr at *
            obtain ⟨s, hs⟩ := Sc.get_some steps α hαl
            obtain ⟨stb, hVA, hsb, s0, s1⟩ := HVO.out.row.cellAt hs
            simp only at hVA
            subst hVA
            have hslo : pb + 3 ≤ stb := (HVO.out.row.ty (b := stb) (inA_some.2 rfl)).1
            obtain ⟨yb, t0, hyb0⟩ := HTR.out.int ⟨stb, α * 2, none⟩ hslo _ s0
            have HYB : Hid (I64 yb) := Lib.hid (hyb0 (HBI.out.1 _ (List.mem_of_getElem? HVV.out) s (List.mem_of_getElem? hs)))
            clear hyb0
            have t1 := HTR.out.sl ⟨stb, α * 2 + 1, none⟩ hslo _ _ _ s1
            have w0 := HO5.out.wv.cellAt HVV.out
            obtain ⟨wb', ewb, _, w0⟩ := w0
            simp only [Option.some.injEq, Addr.mk.injEq, and_true] at ewb
            subst ewb
            have v0 : wr.cell? ⟨wb, ω, none⟩ = some (.slice (some ⟨stb, 0, none⟩) steps.length vc) := HTR.out.sl ⟨wb, ω, none⟩ hwlo _ _ _ w0
            have HPO := Lib.hid (HVO.out.parts s (List.mem_of_getElem? hs))
            have HPS := Lib.hid (HVS.out.2 s (List.mem_of_getElem? hs))
            have HSS := Lib.hid hs
            obtain ⟨blk, PA, pc, parts⟩ := s
            simp only at t1 HPO HPS
            have c2 : wr.cell? ⟨qb, 2, none⟩ = some (.slice (some ⟨wb, 0, none⟩) waves.length wq) := cell_of_row _ _ 2 _ 32 (0, 0) HZ.out.1
            have k3 : wr.cell? ⟨pb + 1, 3, none⟩ = some (.int .i64 by_) := cell_of_row _ _ 3 _ 62 (0, 0) HZ.out.2.2.1
            obtain ⟨π, hπe⟩ : ∃ π : Nat, π = max 1 parts.length := ⟨_, rfl⟩
            have HPE : Hid (max (1 : Int) (parts.length : Int) = (π : Int)) := Lib.hid (by omega)
            obtain ⟨κ, hκ⟩ : ∃ κ : Nat, by_ % (π : Int) = (κ : Int) := Int.eq_ofNat_of_zero_le (Int.emod_nonneg by_ (by omega))
            have hκl : κ < π := by have h := Int.emod_lt_of_pos by_ (show (0 : Int) < π by omega); rw [hκ] at h; omega
            have b1 : (wr.alloc (.cells #[.int .i64 yb, .slice PA parts.length pc] 70)).heap[wr.heap.size]? = some (.cells #[.int .i64 yb, .slice PA parts.length pc] 70 (0, 0)) := heap_alloc_new wr _
            have hal : Below wr.heap.size wr (wr.alloc (.cells #[.int .i64 yb, .slice PA parts.length pc] 70)) := (Below.refl _ _).alloc (Nat.le_refl _) _
            have HZ9 : Hid ((wr.alloc (.cells #[.int .i64 yb, .slice PA parts.length pc] 70)).heap[qb]? = some (.cells #[.int .i64 n, .slice (some ⟨sab, 0, none⟩) stash.length sc, .slice (some ⟨wb, 0, none⟩) waves.length wq] 32 (0, 0)) ∧ (wr.alloc (.cells #[.int .i64 yb, .slice PA parts.length pc] 70)).heap[pb + 2]? = some (.cells #[.int .i64 0, .slice none 0 0, .slice none 0 0] 32 (0, 0)) ∧ (wr.alloc (.cells #[.int .i64 yb, .slice PA parts.length pc] 70)).heap[pb + 1]? = some (.cells #[.int .i64 5, .int .i64 wave, .int .i64 at_, .int .i64 by_] 62 (0, 0)) ∧ Below pb w (wr.alloc (.cells #[.int .i64 yb, .slice PA parts.length pc] 70))) := Lib.hid ⟨((hal).block qb (by omega)).trans HZ.out.1, ((hal).block (pb + 2) (by omega)).trans HZ.out.2.1, ((hal).block (pb + 1) (by omega)).trans HZ.out.2.2.1, HZ.out.2.2.2.trans ((hal).mono (by omega))⟩
            have HTR9 : Hid (Trn W5 (wr.alloc (.cells #[.int .i64 yb, .slice PA parts.length pc] 70)) (pb + 3)) := Lib.hid (HTR.out.trans (Trn.below hal (Nat.le_refl _)))
            have hqw9 : qb < ((wr.alloc (.cells #[.int .i64 yb, .slice PA parts.length pc] 70))).heap.size := by have := (hal).size; omega
            have k3' : (wr.alloc (.cells #[.int .i64 yb, .slice PA parts.length pc] 70)).cell? ⟨pb + 1, 3, none⟩ = some (.int .i64 by_) := cell_of_row _ _ 3 _ 62 (0, 0) HZ9.out.2.2.1
            have i0 : (0 : Int) ≤ (α : Int) := by omega
            have i1 : (α : Int) < (steps.length : Int) := by omega
            have HPS64 := HPS.out
            have hπ1 : 1 ≤ π ∧ π ≤ 64 ∧ (1 ≤ parts.length → π = parts.length) := by have := HPS.out; omega
            clear hs s0 s1 w0 hal hπe
            go_wp2_with fail
            rw [HPE.out]
            refine (Pick_any by_ π _ (by omega) (by omega) h3.1 h3.2).mono ?_
            rw [hκ]
            rintro e w' ⟨rfl, rfl⟩
            have HB1 := Lib.hid b1
            have hvs : wr.heap.size < (wr.alloc (.cells #[.int .i64 yb, .slice PA parts.length pc] 70)).heap.size := by simp
            have hqs : qb < wr.heap.size := hqw
            have hvlo : pb + 3 ≤ wr.heap.size := by omega
            have hsv : stb < wr.heap.size := by have := HTR.out.size; omega
            have hW5v : W5.heap.size ≤ wr.heap.size := HTR.out.size
            clear k3' b1 t0 t1 v0 c2 k3 hκ
            clear HZ HTR hqw
            have HZ := HZ9; have HTR := HTR9; have hqw := hqw9
            clear HZ9 HTR9 hqw9
            generalize wr.alloc (.cells #[.int .i64 yb, .slice PA parts.length pc] 70) = wx at *
            generalize wr.heap.size = vs at *
            generalize wx = wr at *
            have HEV : Hid (∀ wf : World, wr.heap.size ≤ wf.heap.size → (∀ b, pb + 3 ≤ b → wf.heap[b]? = wr.heap[b]?) → ∃ q : PlV, PlOk wf wf.heap.size q ∧ q.cells = PlV.cells ⟨n, (some ⟨sab, 0, none⟩), sc, stash, (some ⟨wb, 0, none⟩), wq, waves⟩ ∧ Sml q (M + 1) 64) := Lib.hid (fun wf hs hk => by
              obtain ⟨q, h1, h2, h3⟩ := HO5.out.turned (HTR.out.trans (Trn.box hs hk)) HBI.out.1 HBI.out.2.1 HBI.out.2.2
              exact ⟨q, h1, h2, (h3 _ _ HSM.out).more (by omega)⟩)
            have c0 : wr.cell? ⟨qb, 0, none⟩ = some (.int .i64 n) := cell_of_row _ _ 0 _ 32 (0, 0) HZ.out.1
            have c1 : wr.cell? ⟨qb, 1, none⟩ = some (.slice (some ⟨sab, 0, none⟩) stash.length sc) := cell_of_row _ _ 1 _ 32 (0, 0) HZ.out.1
            have c2 : wr.cell? ⟨qb, 2, none⟩ = some (.slice (some ⟨wb, 0, none⟩) waves.length wq) := cell_of_row _ _ 2 _ 32 (0, 0) HZ.out.1
            have k0 : wr.cell? ⟨pb + 1, 0, none⟩ = some (.int .i64 5) := cell_of_row _ _ 0 _ 62 (0, 0) HZ.out.2.2.1
            have p0 : wr.cell? ⟨pb + 2, 0, none⟩ = some (.int .i64 0) := cell_of_row _ _ 0 _ 32 (0, 0) HZ.out.2.1
            have p1 : wr.cell? ⟨pb + 2, 1, none⟩ = some (.slice none 0 0) := cell_of_row _ _ 1 _ 32 (0, 0) HZ.out.2.1
            have p2 : wr.cell? ⟨pb + 2, 2, none⟩ = some (.slice none 0 0) := cell_of_row _ _ 2 _ 32 (0, 0) HZ.out.2.1
            have z0 : wr.frozen? ⟨pb + 2, 0, none⟩ = false := frozen_of_row _ _ 0 _ _ HZ.out.2.1
            have z1 : wr.frozen? ⟨pb + 2, 1, none⟩ = false := frozen_of_row _ _ 1 _ _ HZ.out.2.1
            have z2 : wr.frozen? ⟨pb + 2, 2, none⟩ = false := frozen_of_row _ _ 2 _ _ HZ.out.2.1
            go_wp2_with fail
            have hh := three_heap HZ.out.2.1 (.int .i64 n) (.slice (some ⟨sab, 0, none⟩) stash.length sc) (.slice (some ⟨wb, 0, none⟩) waves.length wq)
            have hsame : ∀ b, pb + 3 ≤ b → (((wr.setCell ⟨pb + 2, 0, none⟩ (.int .i64 n)).setCell ⟨pb + 2, 1, none⟩ (.slice (some ⟨sab, 0, none⟩) stash.length sc)).setCell ⟨pb + 2, 2, none⟩ (.slice (some ⟨wb, 0, none⟩) waves.length wq)).heap[b]? = wr.heap[b]? := fun b hb => by
              rw [heap_setCell_other _ _ _ _ (by simp only; omega), heap_setCell_other _ _ _ _ (by simp only; omega), heap_setCell_other _ _ _ _ (by simp only; omega)]
            have hws : wr.heap.size ≤ (((wr.setCell ⟨pb + 2, 0, none⟩ (.int .i64 n)).setCell ⟨pb + 2, 1, none⟩ (.slice (some ⟨sab, 0, none⟩) stash.length sc)).setCell ⟨pb + 2, 2, none⟩ (.slice (some ⟨wb, 0, none⟩) waves.length wq)).heap.size := by simp
            have hbel : Below pb w (((wr.setCell ⟨pb + 2, 0, none⟩ (.int .i64 n)).setCell ⟨pb + 2, 1, none⟩ (.slice (some ⟨sab, 0, none⟩) stash.length sc)).setCell ⟨pb + 2, 2, none⟩ (.slice (some ⟨wb, 0, none⟩) waves.length wq)) := ((HZ.out.2.2.2.setCell (p := ⟨pb + 2, 0, none⟩) (by simp) _).setCell (p := ⟨pb + 2, 1, none⟩) (by simp) _).setCell (p := ⟨pb + 2, 2, none⟩) (by simp) _
            show bodyPost _ _ _ _ _ (((wr.setCell ⟨pb + 2, 0, none⟩ (.int .i64 n)).setCell ⟨pb + 2, 1, none⟩ (.slice (some ⟨sab, 0, none⟩) stash.length sc)).setCell ⟨pb + 2, 2, none⟩ (.slice (some ⟨wb, 0, none⟩) waves.length wq))
            obtain ⟨wf, hwf⟩ : ∃ wf, wf = (((wr.setCell ⟨pb + 2, 0, none⟩ (.int .i64 n)).setCell ⟨pb + 2, 1, none⟩ (.slice (some ⟨sab, 0, none⟩) stash.length sc)).setCell ⟨pb + 2, 2, none⟩ (.slice (some ⟨wb, 0, none⟩) waves.length wq)) := ⟨_, rfl⟩
            rw [← hwf] at hh hsame hws hbel
            rw [← hwf]
            clear hwf
            have e0 : wf.cell? ⟨pb + 2, 0, none⟩ = some (.int .i64 n) := cell_of_row _ _ 0 _ 32 (0, 0) hh
            have e1 : wf.cell? ⟨pb + 2, 1, none⟩ = some (.slice (some ⟨sab, 0, none⟩) stash.length sc) := cell_of_row _ _ 1 _ 32 (0, 0) hh
            have e2 : wf.cell? ⟨pb + 2, 2, none⟩ = some (.slice (some ⟨wb, 0, none⟩) waves.length wq) := cell_of_row _ _ 2 _ 32 (0, 0) hh
            refine bodyPost_ret (v := .agg #[.int .i64 n, .slice (some ⟨sab, 0, none⟩) stash.length sc, .slice (some ⟨wb, 0, none⟩) waves.length wq]) (by simp [results, Try.results31, go_sem, e0, e1, e2]) rfl ?_
            obtain rfl := HPB.out
            exact ⟨⟨⟨n, (some ⟨sab, 0, none⟩), sc, stash, (some ⟨wb, 0, none⟩), wq, waves⟩, rfl, fun wf2 hs hk => HEV.out wf2 (by omega) (fun b hb => (hk b (by omega)).trans (hsame b hb))⟩, hbel⟩
  · have hf5 : (how == 5) = false := by simpa using h5
    go_upto_region 2 with (fail)
    generalize w4.alloc (.cells #[.int .i64 n, .slice SA stash.length sc, .slice WA waves.length wq] 32) = wr at *
    generalize w4.heap.size = qb at *
    obtain ⟨W5, hW5⟩ : ∃ W5, W5 = wr := ⟨_, rfl⟩
    have HTR : Hid (Trn W5 wr (pb + 3)) := Lib.hid (by rw [hW5]; exact Trn.refl _ _)
    have HOE := HO5
    rw [← hW5] at HO5
    clear hW5
    have k0 : wr.cell? ⟨pb + 1, 0, none⟩ = some (.int .i64 how) := cell_of_row _ _ 0 _ 62 (0, 0) HZ.out.2.2.1
    have c1 : wr.cell? ⟨qb, 1, none⟩ = some (.slice SA stash.length sc) := cell_of_row _ _ 1 _ 32 (0, 0) HZ.out.1
    have k1 : wr.cell? ⟨pb + 1, 1, none⟩ = some (.int .i64 wave) := cell_of_row _ _ 1 _ 62 (0, 0) HZ.out.2.2.1
    have c2 : wr.cell? ⟨qb, 2, none⟩ = some (.slice WA waves.length wq) := cell_of_row _ _ 2 _ 32 (0, 0) HZ.out.1
    have k2 : wr.cell? ⟨pb + 1, 2, none⟩ = some (.int .i64 at_) := cell_of_row _ _ 2 _ 62 (0, 0) HZ.out.2.2.1
    have hwm : waves.length ≤ 100000 := HSM.out.2.1
    by_cases hw0 : waves.length = 0
    · have g0 : ((waves.length : Int) == 0) = true := beq_iff_eq.2 (by omega)
      clear hw0
      have HEV : Hid (∀ wf : World, wr.heap.size ≤ wf.heap.size → (∀ b, pb + 3 ≤ b → wf.heap[b]? = wr.heap[b]?) → ∃ q : PlV, PlOk wf wf.heap.size q ∧ q.cells = PlV.cells ⟨n, SA, sc, stash, WA, wq, waves⟩ ∧ Sml q (M + 1) 64) := Lib.hid (fun wf hs hk => by
        obtain ⟨q, h1, h2, h3⟩ := HO5.out.turned (HTR.out.trans (Trn.box hs hk)) HBI.out.1 HBI.out.2.1 HBI.out.2.2
        exact ⟨q, h1, h2, (h3 _ _ HSM.out).more (by omega)⟩)
      clear k0 k1 c1 c2
      have c0 : wr.cell? ⟨qb, 0, none⟩ = some (.int .i64 n) := cell_of_row _ _ 0 _ 32 (0, 0) HZ.out.1
      have c1 : wr.cell? ⟨qb, 1, none⟩ = some (.slice SA stash.length sc) := cell_of_row _ _ 1 _ 32 (0, 0) HZ.out.1
      have c2 : wr.cell? ⟨qb, 2, none⟩ = some (.slice WA waves.length wq) := cell_of_row _ _ 2 _ 32 (0, 0) HZ.out.1
      have k0 : wr.cell? ⟨pb + 1, 0, none⟩ = some (.int .i64 how) := cell_of_row _ _ 0 _ 62 (0, 0) HZ.out.2.2.1
      have p0 : wr.cell? ⟨pb + 2, 0, none⟩ = some (.int .i64 0) := cell_of_row _ _ 0 _ 32 (0, 0) HZ.out.2.1
      have p1 : wr.cell? ⟨pb + 2, 1, none⟩ = some (.slice none 0 0) := cell_of_row _ _ 1 _ 32 (0, 0) HZ.out.2.1
      have p2 : wr.cell? ⟨pb + 2, 2, none⟩ = some (.slice none 0 0) := cell_of_row _ _ 2 _ 32 (0, 0) HZ.out.2.1
      have z0 : wr.frozen? ⟨pb + 2, 0, none⟩ = false := frozen_of_row _ _ 0 _ _ HZ.out.2.1
      have z1 : wr.frozen? ⟨pb + 2, 1, none⟩ = false := frozen_of_row _ _ 1 _ _ HZ.out.2.1
      have z2 : wr.frozen? ⟨pb + 2, 2, none⟩ = false := frozen_of_row _ _ 2 _ _ HZ.out.2.1
      go_wp2_with fail
      have hh := three_heap HZ.out.2.1 (.int .i64 n) (.slice SA stash.length sc) (.slice WA waves.length wq)
      have hsame : ∀ b, pb + 3 ≤ b → (((wr.setCell ⟨pb + 2, 0, none⟩ (.int .i64 n)).setCell ⟨pb + 2, 1, none⟩ (.slice SA stash.length sc)).setCell ⟨pb + 2, 2, none⟩ (.slice WA waves.length wq)).heap[b]? = wr.heap[b]? := fun b hb => by
        rw [heap_setCell_other _ _ _ _ (by simp only; omega), heap_setCell_other _ _ _ _ (by simp only; omega), heap_setCell_other _ _ _ _ (by simp only; omega)]
      have hws : wr.heap.size ≤ (((wr.setCell ⟨pb + 2, 0, none⟩ (.int .i64 n)).setCell ⟨pb + 2, 1, none⟩ (.slice SA stash.length sc)).setCell ⟨pb + 2, 2, none⟩ (.slice WA waves.length wq)).heap.size := by simp
      have hbel : Below pb w (((wr.setCell ⟨pb + 2, 0, none⟩ (.int .i64 n)).setCell ⟨pb + 2, 1, none⟩ (.slice SA stash.length sc)).setCell ⟨pb + 2, 2, none⟩ (.slice WA waves.length wq)) := ((HZ.out.2.2.2.setCell (p := ⟨pb + 2, 0, none⟩) (by simp) _).setCell (p := ⟨pb + 2, 1, none⟩) (by simp) _).setCell (p := ⟨pb + 2, 2, none⟩) (by simp) _
      show bodyPost _ _ _ _ _ (((wr.setCell ⟨pb + 2, 0, none⟩ (.int .i64 n)).setCell ⟨pb + 2, 1, none⟩ (.slice SA stash.length sc)).setCell ⟨pb + 2, 2, none⟩ (.slice WA waves.length wq))
      obtain ⟨wf, hwf⟩ : ∃ wf, wf = (((wr.setCell ⟨pb + 2, 0, none⟩ (.int .i64 n)).setCell ⟨pb + 2, 1, none⟩ (.slice SA stash.length sc)).setCell ⟨pb + 2, 2, none⟩ (.slice WA waves.length wq)) := ⟨_, rfl⟩
      rw [← hwf] at hh hsame hws hbel
      rw [← hwf]
      clear hwf
      have e0 : wf.cell? ⟨pb + 2, 0, none⟩ = some (.int .i64 n) := cell_of_row _ _ 0 _ 32 (0, 0) hh
      have e1 : wf.cell? ⟨pb + 2, 1, none⟩ = some (.slice SA stash.length sc) := cell_of_row _ _ 1 _ 32 (0, 0) hh
      have e2 : wf.cell? ⟨pb + 2, 2, none⟩ = some (.slice WA waves.length wq) := cell_of_row _ _ 2 _ 32 (0, 0) hh
      refine bodyPost_ret (v := .agg #[.int .i64 n, .slice SA stash.length sc, .slice WA waves.length wq]) (by simp [results, Try.results31, go_sem, e0, e1, e2]) rfl ?_
      obtain rfl := HPB.out
      exact ⟨⟨⟨n, SA, sc, stash, WA, wq, waves⟩, rfl, fun wf2 hs hk => HEV.out wf2 (by omega) (fun b hb => (hk b (by omega)).trans (hsame b hb))⟩, hbel⟩
    · obtain ⟨ω, hω⟩ : ∃ ω : Nat, wave % (waves.length : Int) = (ω : Int) := Int.eq_ofNat_of_zero_le (Int.emod_nonneg wave (by omega))
      have hωl : ω < waves.length := by have h := Int.emod_lt_of_pos wave (show (0 : Int) < waves.length by omega); rw [hω] at h; omega
      have f0 : ((waves.length : Int) == 0) = false := beq_eq_false_iff_ne.2 (by omega)
      go_wp2_with fail
      refine (Pick_any wave waves.length wr (by omega) (by omega) h1.1 h1.2).mono ?_
      rw [hω]
      rintro e w' ⟨rfl, rfl⟩
      clear k1 hω f0
      obtain ⟨v, hv⟩ := Sc.get_some waves ω hωl
      obtain ⟨wb, hWA, hwb, w0⟩ := HO5.out.wv.cellAt hv
      simp only at hWA w0
      subst hWA
      have hwlo : pb + 3 ≤ wb := (HO5.out.wv.ty (b := wb) (inA_some.2 rfl)).1
      have v0 : wr.cell? ⟨wb, ω, none⟩ = some (.slice v.A v.steps.length v.c) := HTR.out.sl ⟨wb, ω, none⟩ hwlo _ _ _ w0
      have HVO := Lib.hid (HO5.out.ws v (List.mem_of_getElem? hv))
      have HVS := Lib.hid (HSM.out.2.2 v (List.mem_of_getElem? hv))
      have HVV := Lib.hid hv
      obtain ⟨VA, vc, steps⟩ := v
      simp only at v0 HVS
      have o0 : (0 : Int) ≤ (ω : Int) := by omega
      have o1 : (ω : Int) < (waves.length : Int) := by omega
      by_cases hm0 : steps.length = 0
      · have g1 : ((steps.length : Int) == 0) = true := beq_iff_eq.2 (by omega)
        clear hm0
        have HEV : Hid (∀ wf : World, wr.heap.size ≤ wf.heap.size → (∀ b, pb + 3 ≤ b → wf.heap[b]? = wr.heap[b]?) → ∃ q : PlV, PlOk wf wf.heap.size q ∧ q.cells = PlV.cells ⟨n, SA, sc, stash, (some ⟨wb, 0, none⟩), wq, waves⟩ ∧ Sml q (M + 1) 64) := Lib.hid (fun wf hs hk => by
          obtain ⟨q, h1, h2, h3⟩ := HO5.out.turned (HTR.out.trans (Trn.box hs hk)) HBI.out.1 HBI.out.2.1 HBI.out.2.2
          exact ⟨q, h1, h2, (h3 _ _ HSM.out).more (by omega)⟩)
        clear hv w0
        have c0 : wr.cell? ⟨qb, 0, none⟩ = some (.int .i64 n) := cell_of_row _ _ 0 _ 32 (0, 0) HZ.out.1
        have c1 : wr.cell? ⟨qb, 1, none⟩ = some (.slice SA stash.length sc) := cell_of_row _ _ 1 _ 32 (0, 0) HZ.out.1
        have c2 : wr.cell? ⟨qb, 2, none⟩ = some (.slice (some ⟨wb, 0, none⟩) waves.length wq) := cell_of_row _ _ 2 _ 32 (0, 0) HZ.out.1
        have k0 : wr.cell? ⟨pb + 1, 0, none⟩ = some (.int .i64 how) := cell_of_row _ _ 0 _ 62 (0, 0) HZ.out.2.2.1
        have p0 : wr.cell? ⟨pb + 2, 0, none⟩ = some (.int .i64 0) := cell_of_row _ _ 0 _ 32 (0, 0) HZ.out.2.1
        have p1 : wr.cell? ⟨pb + 2, 1, none⟩ = some (.slice none 0 0) := cell_of_row _ _ 1 _ 32 (0, 0) HZ.out.2.1
        have p2 : wr.cell? ⟨pb + 2, 2, none⟩ = some (.slice none 0 0) := cell_of_row _ _ 2 _ 32 (0, 0) HZ.out.2.1
        have z0 : wr.frozen? ⟨pb + 2, 0, none⟩ = false := frozen_of_row _ _ 0 _ _ HZ.out.2.1
        have z1 : wr.frozen? ⟨pb + 2, 1, none⟩ = false := frozen_of_row _ _ 1 _ _ HZ.out.2.1
        have z2 : wr.frozen? ⟨pb + 2, 2, none⟩ = false := frozen_of_row _ _ 2 _ _ HZ.out.2.1
        go_wp2_with fail
        have hh := three_heap HZ.out.2.1 (.int .i64 n) (.slice SA stash.length sc) (.slice (some ⟨wb, 0, none⟩) waves.length wq)
        have hsame : ∀ b, pb + 3 ≤ b → (((wr.setCell ⟨pb + 2, 0, none⟩ (.int .i64 n)).setCell ⟨pb + 2, 1, none⟩ (.slice SA stash.length sc)).setCell ⟨pb + 2, 2, none⟩ (.slice (some ⟨wb, 0, none⟩) waves.length wq)).heap[b]? = wr.heap[b]? := fun b hb => by
          rw [heap_setCell_other _ _ _ _ (by simp only; omega), heap_setCell_other _ _ _ _ (by simp only; omega), heap_setCell_other _ _ _ _ (by simp only; omega)]
        have hws : wr.heap.size ≤ (((wr.setCell ⟨pb + 2, 0, none⟩ (.int .i64 n)).setCell ⟨pb + 2, 1, none⟩ (.slice SA stash.length sc)).setCell ⟨pb + 2, 2, none⟩ (.slice (some ⟨wb, 0, none⟩) waves.length wq)).heap.size := by simp
        have hbel : Below pb w (((wr.setCell ⟨pb + 2, 0, none⟩ (.int .i64 n)).setCell ⟨pb + 2, 1, none⟩ (.slice SA stash.length sc)).setCell ⟨pb + 2, 2, none⟩ (.slice (some ⟨wb, 0, none⟩) waves.length wq)) := ((HZ.out.2.2.2.setCell (p := ⟨pb + 2, 0, none⟩) (by simp) _).setCell (p := ⟨pb + 2, 1, none⟩) (by simp) _).setCell (p := ⟨pb + 2, 2, none⟩) (by simp) _
        show bodyPost _ _ _ _ _ (((wr.setCell ⟨pb + 2, 0, none⟩ (.int .i64 n)).setCell ⟨pb + 2, 1, none⟩ (.slice SA stash.length sc)).setCell ⟨pb + 2, 2, none⟩ (.slice (some ⟨wb, 0, none⟩) waves.length wq))
        obtain ⟨wf, hwf⟩ : ∃ wf, wf = (((wr.setCell ⟨pb + 2, 0, none⟩ (.int .i64 n)).setCell ⟨pb + 2, 1, none⟩ (.slice SA stash.length sc)).setCell ⟨pb + 2, 2, none⟩ (.slice (some ⟨wb, 0, none⟩) waves.length wq)) := ⟨_, rfl⟩
        rw [← hwf] at hh hsame hws hbel
        rw [← hwf]
        clear hwf
        have e0 : wf.cell? ⟨pb + 2, 0, none⟩ = some (.int .i64 n) := cell_of_row _ _ 0 _ 32 (0, 0) hh
        have e1 : wf.cell? ⟨pb + 2, 1, none⟩ = some (.slice SA stash.length sc) := cell_of_row _ _ 1 _ 32 (0, 0) hh
        have e2 : wf.cell? ⟨pb + 2, 2, none⟩ = some (.slice (some ⟨wb, 0, none⟩) waves.length wq) := cell_of_row _ _ 2 _ 32 (0, 0) hh
        refine bodyPost_ret (v := .agg #[.int .i64 n, .slice SA stash.length sc, .slice (some ⟨wb, 0, none⟩) waves.length wq]) (by simp [results, Try.results31, go_sem, e0, e1, e2]) rfl ?_
        obtain rfl := HPB.out
        exact ⟨⟨⟨n, SA, sc, stash, (some ⟨wb, 0, none⟩), wq, waves⟩, rfl, fun wf2 hs hk => HEV.out wf2 (by omega) (fun b hb => (hk b (by omega)).trans (hsame b hb))⟩, hbel⟩
      · obtain ⟨α, hα⟩ : ∃ α : Nat, at_ % (steps.length : Int) = (α : Int) := Int.eq_ofNat_of_zero_le (Int.emod_nonneg at_ (by omega))
        have hαl : α < steps.length := by have h := Int.emod_lt_of_pos at_ (show (0 : Int) < steps.length by omega); rw [hα] at h; omega
        have hsm := HVS.out.1
        have f1 : ((steps.length : Int) == 0) = false := beq_eq_false_iff_ne.2 (by omega)
        clear hv w0
        go_upto_region 9 with (fail)
        have a0 : ∀ r : Qs wr, r.1.cell? ⟨pb + 1, 2, none⟩ = some (.int .i64 at_) := fun r => r.cell k2
        have a1 : ∀ r : Qs wr, r.1.cell? ⟨qb, 2, none⟩ = some (.slice (some ⟨wb, 0, none⟩) waves.length wq) := fun r => r.cell c2
        have a2 : ∀ r : Qs wr, r.1.cell? ⟨wb, ω, none⟩ = some (.slice VA steps.length vc) := fun r => r.cell v0
        have hC : ∀ r : Qs wr, Calls Try.prog 30 #[.int .i64 at_, .int .i64 (steps.length : Int)] r.1 fun e w'' => e = .returned (.int .i64 (α : Int)) ∧ ∃ r' : Qs wr, w'' = r'.1 := fun r => r.calls_same (by
          have h := Pick_any at_ steps.length r.1 (by omega) (by omega) h2.1 h2.2
          rw [hα] at h
          exact h)
        have HK0 : Hid (wr.heap[pb + 1]? = some (.cells #[.int .i64 how, .int .i64 wave, .int .i64 at_, .int .i64 by_] 62 (0, 0))) := Lib.hid HZ.out.2.2.1
        clear k0 k2 c2 v0 hα f1
        refine wp_region_below (by kernel_rfl) (by kernel_rfl) ?_
        repeat (go_big_quiet_step (first | exact hC _))
        refine wpQuiet_nil ?_
        rintro _ ⟨r, rfl⟩
        have HZ9 : Hid (r.1.heap[qb]? = some (.cells #[.int .i64 n, .slice SA stash.length sc, .slice (some ⟨wb, 0, none⟩) waves.length wq] 32 (0, 0)) ∧ r.1.heap[pb + 2]? = some (.cells #[.int .i64 0, .slice none 0 0, .slice none 0 0] 32 (0, 0)) ∧ r.1.heap[pb + 1]? = some (.cells #[.int .i64 how, .int .i64 wave, .int .i64 at_, .int .i64 by_] 62 (0, 0)) ∧ Below pb w r.1) := Lib.hid ⟨((r.2).block qb (by omega)).trans HZ.out.1, ((r.2).block (pb + 2) (by omega)).trans HZ.out.2.1, ((r.2).block (pb + 1) (by omega)).trans HZ.out.2.2.1, HZ.out.2.2.2.trans ((r.2).mono (by omega))⟩
        have HTR9 : Hid (Trn W5 r.1 (pb + 3)) := Lib.hid (HTR.out.trans (Trn.below r.2 (Nat.le_refl _)))
        have HOE9 : Hid (OwnP r.1 (pb + 3) ⟨n, SA, sc, stash, (some ⟨wb, 0, none⟩), wq, waves⟩) := Lib.hid (HOE.out.below r.2 (Nat.le_refl _))
        have hqw9 : qb < (r.1).heap.size := by have := (r.2).size; omega
        clear HZ HTR hqw HOE
        have HZ := HZ9; have HTR := HTR9; have hqw := hqw9; have HOE := HOE9
        clear HZ9 HTR9 hqw9 HOE9
        clear a0 a1 a2 hC HK0
        generalize r.1 = wr at *
        obtain ⟨s, hs⟩ := Sc.get_some steps α hαl
        obtain ⟨stb, hVA, hsb, s0, s1⟩ := HVO.out.row.cellAt hs
        simp only at hVA
        subst hVA
        have hslo : pb + 3 ≤ stb := (HVO.out.row.ty (b := stb) (inA_some.2 rfl)).1
        obtain ⟨yb, t0, hyb0⟩ := HTR.out.int ⟨stb, α * 2, none⟩ hslo _ s0
        have HYB : Hid (I64 yb) := Lib.hid (hyb0 (HBI.out.1 _ (List.mem_of_getElem? HVV.out) s (List.mem_of_getElem? hs)))
        clear hyb0
        have t1 := HTR.out.sl ⟨stb, α * 2 + 1, none⟩ hslo _ _ _ s1
        have w0 := HO5.out.wv.cellAt HVV.out
        obtain ⟨wb', ewb, _, w0⟩ := w0
        simp only [Option.some.injEq, Addr.mk.injEq, and_true] at ewb
        subst ewb
        have v0 : wr.cell? ⟨wb, ω, none⟩ = some (.slice (some ⟨stb, 0, none⟩) steps.length vc) := HTR.out.sl ⟨wb, ω, none⟩ hwlo _ _ _ w0
        have HPO := Lib.hid (HVO.out.parts s (List.mem_of_getElem? hs))
        have HPS := Lib.hid (HVS.out.2 s (List.mem_of_getElem? hs))
        have HSS := Lib.hid hs
        obtain ⟨blk, PA, pc, parts⟩ := s
        simp only at t1 HPO HPS
        have c2 : wr.cell? ⟨qb, 2, none⟩ = some (.slice (some ⟨wb, 0, none⟩) waves.length wq) := cell_of_row _ _ 2 _ 32 (0, 0) HZ.out.1
        have k3 : wr.cell? ⟨pb + 1, 3, none⟩ = some (.int .i64 by_) := cell_of_row _ _ 3 _ 62 (0, 0) HZ.out.2.2.1
        obtain ⟨π, hπe⟩ : ∃ π : Nat, π = max 1 parts.length := ⟨_, rfl⟩
        have HPE : Hid (max (1 : Int) (parts.length : Int) = (π : Int)) := Lib.hid (by omega)
        obtain ⟨κ, hκ⟩ : ∃ κ : Nat, by_ % (π : Int) = (κ : Int) := Int.eq_ofNat_of_zero_le (Int.emod_nonneg by_ (by omega))
        have hκl : κ < π := by have h := Int.emod_lt_of_pos by_ (show (0 : Int) < π by omega); rw [hκ] at h; omega
        have b1 : (wr.alloc (.cells #[.int .i64 yb, .slice PA parts.length pc] 70)).heap[wr.heap.size]? = some (.cells #[.int .i64 yb, .slice PA parts.length pc] 70 (0, 0)) := heap_alloc_new wr _
        have hal : Below wr.heap.size wr (wr.alloc (.cells #[.int .i64 yb, .slice PA parts.length pc] 70)) := (Below.refl _ _).alloc (Nat.le_refl _) _
        have HZ9 : Hid ((wr.alloc (.cells #[.int .i64 yb, .slice PA parts.length pc] 70)).heap[qb]? = some (.cells #[.int .i64 n, .slice SA stash.length sc, .slice (some ⟨wb, 0, none⟩) waves.length wq] 32 (0, 0)) ∧ (wr.alloc (.cells #[.int .i64 yb, .slice PA parts.length pc] 70)).heap[pb + 2]? = some (.cells #[.int .i64 0, .slice none 0 0, .slice none 0 0] 32 (0, 0)) ∧ (wr.alloc (.cells #[.int .i64 yb, .slice PA parts.length pc] 70)).heap[pb + 1]? = some (.cells #[.int .i64 how, .int .i64 wave, .int .i64 at_, .int .i64 by_] 62 (0, 0)) ∧ Below pb w (wr.alloc (.cells #[.int .i64 yb, .slice PA parts.length pc] 70))) := Lib.hid ⟨((hal).block qb (by omega)).trans HZ.out.1, ((hal).block (pb + 2) (by omega)).trans HZ.out.2.1, ((hal).block (pb + 1) (by omega)).trans HZ.out.2.2.1, HZ.out.2.2.2.trans ((hal).mono (by omega))⟩
        have HTR9 : Hid (Trn W5 (wr.alloc (.cells #[.int .i64 yb, .slice PA parts.length pc] 70)) (pb + 3)) := Lib.hid (HTR.out.trans (Trn.below hal (Nat.le_refl _)))
        have HOE9 : Hid (OwnP (wr.alloc (.cells #[.int .i64 yb, .slice PA parts.length pc] 70)) (pb + 3) ⟨n, SA, sc, stash, (some ⟨wb, 0, none⟩), wq, waves⟩) := Lib.hid (HOE.out.below hal (Nat.le_refl _))
        have hqw9 : qb < ((wr.alloc (.cells #[.int .i64 yb, .slice PA parts.length pc] 70))).heap.size := by have := (hal).size; omega
        have k3' : (wr.alloc (.cells #[.int .i64 yb, .slice PA parts.length pc] 70)).cell? ⟨pb + 1, 3, none⟩ = some (.int .i64 by_) := cell_of_row _ _ 3 _ 62 (0, 0) HZ9.out.2.2.1
        have i0 : (0 : Int) ≤ (α : Int) := by omega
        have i1 : (α : Int) < (steps.length : Int) := by omega
        have HPS64 := HPS.out
        have hπ1 : 1 ≤ π ∧ π ≤ 64 ∧ (1 ≤ parts.length → π = parts.length) := by have := HPS.out; omega
        clear hs s0 s1 w0 hal hπe
        go_wp2_with fail
        rw [HPE.out]
        refine (Pick_any by_ π _ (by omega) (by omega) h3.1 h3.2).mono ?_
        rw [hκ]
        rintro e w' ⟨rfl, rfl⟩
        have HB1 := Lib.hid b1
        have hvs : wr.heap.size < (wr.alloc (.cells #[.int .i64 yb, .slice PA parts.length pc] 70)).heap.size := by simp
        have hqs : qb < wr.heap.size := hqw
        have hvlo : pb + 3 ≤ wr.heap.size := by omega
        have hsv : stb < wr.heap.size := by have := HTR.out.size; omega
        have hW5v : W5.heap.size ≤ wr.heap.size := HTR.out.size
        clear k3' b1 t0 t1 v0 c2 k3 hκ
        clear HZ HTR hqw HOE
        have HZ := HZ9; have HTR := HTR9; have hqw := hqw9; have HOE := HOE9
        clear HZ9 HTR9 hqw9 HOE9
        generalize wr.alloc (.cells #[.int .i64 yb, .slice PA parts.length pc] 70) = wx at *
        generalize wr.heap.size = vs at *
        generalize wx = wr at *
        by_cases e0 : how = 0
        · subst e0
          obtain ⟨ξ, hξ⟩ : ∃ ξ : Int, by_ % 40 = ξ := ⟨_, rfl⟩
          have hξ0 : 0 ≤ ξ ∧ ξ < 40 := by have := Int.emod_nonneg by_ (show (40 : Int) ≠ 0 by omega); have := Int.emod_lt_of_pos by_ (show (0 : Int) < 40 by omega); omega
          have HPK : Hid (∀ W : World, Calls Try.prog 30 #[.int .i64 by_, .int .i64 40] W fun e w' => e = .returned (.int .i64 ξ) ∧ W = w') := Lib.hid (fun W => by
            have h := Pick_any by_ 40 W (by omega) (by omega) h3.1 h3.2
            rw [hξ] at h
            exact h)
          clear hξ
          obtain ⟨b70, e70, _, r0, r1⟩ := (HOE.out.ws _ (List.mem_of_getElem? HVV.out)).row.cellAt HSS.out
          simp only [Option.some.injEq, Addr.mk.injEq, and_true] at e70
          subst e70
          obtain ⟨_, _, cs70, hc70⟩ := (HOE.out.ws _ (List.mem_of_getElem? HVV.out)).row.ty (b := stb) (inA_some.2 rfl)
          obtain ⟨_, _, cs43, hc43⟩ := HOE.out.wv.ty (b := wb) (inA_some.2 rfl)
          have hne1 : qb ≠ stb := fun e => by
            have h := HZ.out.1
            rw [e, hc70] at h
            injection h with h
            injection h with _ h _
            cases h
          have hne2 : wb ≠ stb := fun e => by
            rw [e, hc70] at hc43
            injection hc43 with h
            injection h with _ h _
            cases h
          have gx : wr.cell? ⟨stb, α * 2, none⟩ = some (.int .i64 blk) := r0
          have zx : wr.frozen? ⟨stb, α * 2, none⟩ = false := frozen_of_row wr stb (α * 2) cs70 70 hc70
          have hwx : IntKind.i64.wrap (ξ - 1) = ξ - 1 := IntWalk.i64_in _ (by omega)
          have v0 : wr.cell? ⟨wb, ω, none⟩ = some (.slice (some ⟨stb, 0, none⟩) steps.length vc) := by
            obtain ⟨b43, e43, _, h43⟩ := HOE.out.wv.cellAt HVV.out
            simp only [Option.some.injEq, Addr.mk.injEq, and_true] at e43
            subst e43
            exact h43
          clear hc70 hc43 r0 r1
          have k0 : wr.cell? ⟨pb + 1, 0, none⟩ = some (.int .i64 0) := cell_of_row _ _ 0 _ 62 (0, 0) HZ.out.2.2.1
          have g0 : wr.cell? ⟨qb, 2, none⟩ = some (.slice (some ⟨wb, 0, none⟩) waves.length wq) := cell_of_row _ _ 2 _ 32 (0, 0) HZ.out.1
          have m0 : (wr.setCell ⟨stb, α * 2, none⟩ (.int .i64 (ξ - 1))).drew.cell? ⟨qb, 2, none⟩ = some (.slice (some ⟨wb, 0, none⟩) waves.length wq) := (World.cell?_setCell_far wr ⟨stb, α * 2, none⟩ ⟨qb, 2, none⟩ _ (fun e => hne1 e.symm)).trans g0
          have g1 : wr.cell? ⟨wb, ω, none⟩ = some (.slice (some ⟨stb, 0, none⟩) steps.length vc) := v0
          have m1 : (wr.setCell ⟨stb, α * 2, none⟩ (.int .i64 (ξ - 1))).drew.cell? ⟨wb, ω, none⟩ = some (.slice (some ⟨stb, 0, none⟩) steps.length vc) := (World.cell?_setCell_far wr ⟨stb, α * 2, none⟩ ⟨wb, ω, none⟩ _ (fun e => hne2 e.symm)).trans g1
          have g2 : wr.cell? ⟨pb + 1, 3, none⟩ = some (.int .i64 by_) := cell_of_row _ _ 3 _ 62 (0, 0) HZ.out.2.2.1
          have m2 : (wr.setCell ⟨stb, α * 2, none⟩ (.int .i64 (ξ - 1))).drew.cell? ⟨pb + 1, 3, none⟩ = some (.int .i64 by_) := (World.cell?_setCell_far wr ⟨stb, α * 2, none⟩ ⟨pb + 1, 3, none⟩ _ (by simp only; omega)).trans g2
          have HTR9 : Hid (Trn W5 (wr.setCell ⟨stb, α * 2, none⟩ (.int .i64 (ξ - 1))).drew (pb + 3)) := Lib.hid (HTR.out.trans (Trn.set (w := wr) (lo := pb + 3) (x0 := (ξ - 1)) gx (by unfold I64; omega))).drew
          have hsm9 : ∀ b, b ≠ stb → (wr.setCell ⟨stb, α * 2, none⟩ (.int .i64 (ξ - 1))).drew.heap[b]? = wr.heap[b]? := fun b hb => heap_setCell_other wr _ _ _ hb
          have HZ9 : Hid ((wr.setCell ⟨stb, α * 2, none⟩ (.int .i64 (ξ - 1))).drew.heap[qb]? = some (.cells #[.int .i64 n, .slice SA stash.length sc, .slice (some ⟨wb, 0, none⟩) waves.length wq] 32 (0, 0)) ∧ (wr.setCell ⟨stb, α * 2, none⟩ (.int .i64 (ξ - 1))).drew.heap[pb + 2]? = some (.cells #[.int .i64 0, .slice none 0 0, .slice none 0 0] 32 (0, 0)) ∧ (wr.setCell ⟨stb, α * 2, none⟩ (.int .i64 (ξ - 1))).drew.heap[pb + 1]? = some (.cells #[.int .i64 0, .int .i64 wave, .int .i64 at_, .int .i64 by_] 62 (0, 0)) ∧ Below pb w (wr.setCell ⟨stb, α * 2, none⟩ (.int .i64 (ξ - 1))).drew) := Lib.hid ⟨(hsm9 qb hne1).trans HZ.out.1, (hsm9 (pb + 2) (by omega)).trans HZ.out.2.1, (hsm9 (pb + 1) (by omega)).trans HZ.out.2.2.1, belowDrewN (HZ.out.2.2.2.setCell (by simp only; omega) _) 1⟩
          have hqw9 : qb < (wr.setCell ⟨stb, α * 2, none⟩ (.int .i64 (ξ - 1))).drew.heap.size := by simp; exact hqw
          clear hsm9
          go_upto_region 13 with (fail)
          go_region_held3 (fun w' => w'.cell? ⟨qb, 2, none⟩ = some (.slice (some ⟨wb, 0, none⟩) waves.length wq) ∧ w'.cell? ⟨wb, ω, none⟩ = some (.slice (some ⟨stb, 0, none⟩) steps.length vc) ∧ w'.cell? ⟨pb + 1, 3, none⟩ = some (.int .i64 by_))
            (first | exact ⟨g0, g1, g2⟩ | exact ⟨m0, m1, m2⟩ | (go_keep; done))
            ((first | (go_at_call 30; refine (HPK.out _).mono ?_; rintro e w4 ⟨rfl, rfl⟩) | fail))
          all_goals
            clear gx zx k0 v0 hwx g0 m0 g1 m1 g2 m2
            clear HZ HTR hqw HOE
            have HZ := HZ9; have HTR := HTR9; have hqw := hqw9
            clear HZ9 HTR9 hqw9
            generalize (wr.setCell ⟨stb, α * 2, none⟩ (.int .i64 (ξ - 1))).drew = wr at *
            have HEV : Hid (∀ wf : World, wr.heap.size ≤ wf.heap.size → (∀ b, pb + 3 ≤ b → wf.heap[b]? = wr.heap[b]?) → ∃ q : PlV, PlOk wf wf.heap.size q ∧ q.cells = PlV.cells ⟨n, SA, sc, stash, (some ⟨wb, 0, none⟩), wq, waves⟩ ∧ Sml q (M + 1) 64) := Lib.hid (fun wf hs hk => by
              obtain ⟨q, h1, h2, h3⟩ := HO5.out.turned (HTR.out.trans (Trn.box hs hk)) HBI.out.1 HBI.out.2.1 HBI.out.2.2
              exact ⟨q, h1, h2, (h3 _ _ HSM.out).more (by omega)⟩)
            have c0 : wr.cell? ⟨qb, 0, none⟩ = some (.int .i64 n) := cell_of_row _ _ 0 _ 32 (0, 0) HZ.out.1
            have c1 : wr.cell? ⟨qb, 1, none⟩ = some (.slice SA stash.length sc) := cell_of_row _ _ 1 _ 32 (0, 0) HZ.out.1
            have c2 : wr.cell? ⟨qb, 2, none⟩ = some (.slice (some ⟨wb, 0, none⟩) waves.length wq) := cell_of_row _ _ 2 _ 32 (0, 0) HZ.out.1
            have k0 : wr.cell? ⟨pb + 1, 0, none⟩ = some (.int .i64 0) := cell_of_row _ _ 0 _ 62 (0, 0) HZ.out.2.2.1
            have p0 : wr.cell? ⟨pb + 2, 0, none⟩ = some (.int .i64 0) := cell_of_row _ _ 0 _ 32 (0, 0) HZ.out.2.1
            have p1 : wr.cell? ⟨pb + 2, 1, none⟩ = some (.slice none 0 0) := cell_of_row _ _ 1 _ 32 (0, 0) HZ.out.2.1
            have p2 : wr.cell? ⟨pb + 2, 2, none⟩ = some (.slice none 0 0) := cell_of_row _ _ 2 _ 32 (0, 0) HZ.out.2.1
            have z0 : wr.frozen? ⟨pb + 2, 0, none⟩ = false := frozen_of_row _ _ 0 _ _ HZ.out.2.1
            have z1 : wr.frozen? ⟨pb + 2, 1, none⟩ = false := frozen_of_row _ _ 1 _ _ HZ.out.2.1
            have z2 : wr.frozen? ⟨pb + 2, 2, none⟩ = false := frozen_of_row _ _ 2 _ _ HZ.out.2.1
            go_wp2_with fail
            have hh := three_heap HZ.out.2.1 (.int .i64 n) (.slice SA stash.length sc) (.slice (some ⟨wb, 0, none⟩) waves.length wq)
            have hsame : ∀ b, pb + 3 ≤ b → (((wr.setCell ⟨pb + 2, 0, none⟩ (.int .i64 n)).setCell ⟨pb + 2, 1, none⟩ (.slice SA stash.length sc)).setCell ⟨pb + 2, 2, none⟩ (.slice (some ⟨wb, 0, none⟩) waves.length wq)).heap[b]? = wr.heap[b]? := fun b hb => by
              rw [heap_setCell_other _ _ _ _ (by simp only; omega), heap_setCell_other _ _ _ _ (by simp only; omega), heap_setCell_other _ _ _ _ (by simp only; omega)]
            have hws : wr.heap.size ≤ (((wr.setCell ⟨pb + 2, 0, none⟩ (.int .i64 n)).setCell ⟨pb + 2, 1, none⟩ (.slice SA stash.length sc)).setCell ⟨pb + 2, 2, none⟩ (.slice (some ⟨wb, 0, none⟩) waves.length wq)).heap.size := by simp
            have hbel : Below pb w (((wr.setCell ⟨pb + 2, 0, none⟩ (.int .i64 n)).setCell ⟨pb + 2, 1, none⟩ (.slice SA stash.length sc)).setCell ⟨pb + 2, 2, none⟩ (.slice (some ⟨wb, 0, none⟩) waves.length wq)) := ((HZ.out.2.2.2.setCell (p := ⟨pb + 2, 0, none⟩) (by simp) _).setCell (p := ⟨pb + 2, 1, none⟩) (by simp) _).setCell (p := ⟨pb + 2, 2, none⟩) (by simp) _
            show bodyPost _ _ _ _ _ (((wr.setCell ⟨pb + 2, 0, none⟩ (.int .i64 n)).setCell ⟨pb + 2, 1, none⟩ (.slice SA stash.length sc)).setCell ⟨pb + 2, 2, none⟩ (.slice (some ⟨wb, 0, none⟩) waves.length wq))
            obtain ⟨wf, hwf⟩ : ∃ wf, wf = (((wr.setCell ⟨pb + 2, 0, none⟩ (.int .i64 n)).setCell ⟨pb + 2, 1, none⟩ (.slice SA stash.length sc)).setCell ⟨pb + 2, 2, none⟩ (.slice (some ⟨wb, 0, none⟩) waves.length wq)) := ⟨_, rfl⟩
            rw [← hwf] at hh hsame hws hbel
            rw [← hwf]
            clear hwf
            have e0 : wf.cell? ⟨pb + 2, 0, none⟩ = some (.int .i64 n) := cell_of_row _ _ 0 _ 32 (0, 0) hh
            have e1 : wf.cell? ⟨pb + 2, 1, none⟩ = some (.slice SA stash.length sc) := cell_of_row _ _ 1 _ 32 (0, 0) hh
            have e2 : wf.cell? ⟨pb + 2, 2, none⟩ = some (.slice (some ⟨wb, 0, none⟩) waves.length wq) := cell_of_row _ _ 2 _ 32 (0, 0) hh
            refine bodyPost_ret (v := .agg #[.int .i64 n, .slice SA stash.length sc, .slice (some ⟨wb, 0, none⟩) waves.length wq]) (by simp [results, Try.results31, go_sem, e0, e1, e2]) rfl ?_
            obtain rfl := HPB.out
            exact ⟨⟨⟨n, SA, sc, stash, (some ⟨wb, 0, none⟩), wq, waves⟩, rfl, fun wf2 hs hk => HEV.out wf2 (by omega) (fun b hb => (hk b (by omega)).trans (hsame b hb))⟩, hbel⟩
        · by_cases e1 : how = 1
          · subst e1
            by_cases hp0 : parts.length = 0
            · have hpd : decide (0 < parts.length) = false := decide_eq_false (by omega)
              clear hp0
              have k0 : wr.cell? ⟨pb + 1, 0, none⟩ = some (.int .i64 1) := cell_of_row _ _ 0 _ 62 (0, 0) HZ.out.2.2.1
              have u1 : wr.cell? ⟨vs, 1, none⟩ = some (.slice PA parts.length pc) := cell_of_row _ _ 1 _ 70 (0, 0) HB1.out
              have HEV : Hid (∀ wf : World, wr.heap.size ≤ wf.heap.size → (∀ b, pb + 3 ≤ b → wf.heap[b]? = wr.heap[b]?) → ∃ q : PlV, PlOk wf wf.heap.size q ∧ q.cells = PlV.cells ⟨n, SA, sc, stash, (some ⟨wb, 0, none⟩), wq, waves⟩ ∧ Sml q (M + 1) 64) := Lib.hid (fun wf hs hk => by
                obtain ⟨q, h1, h2, h3⟩ := HO5.out.turned (HTR.out.trans (Trn.box hs hk)) HBI.out.1 HBI.out.2.1 HBI.out.2.2
                exact ⟨q, h1, h2, (h3 _ _ HSM.out).more (by omega)⟩)
              have c0 : wr.cell? ⟨qb, 0, none⟩ = some (.int .i64 n) := cell_of_row _ _ 0 _ 32 (0, 0) HZ.out.1
              have c1 : wr.cell? ⟨qb, 1, none⟩ = some (.slice SA stash.length sc) := cell_of_row _ _ 1 _ 32 (0, 0) HZ.out.1
              have c2 : wr.cell? ⟨qb, 2, none⟩ = some (.slice (some ⟨wb, 0, none⟩) waves.length wq) := cell_of_row _ _ 2 _ 32 (0, 0) HZ.out.1
              have k0_ : wr.cell? ⟨pb + 1, 0, none⟩ = some (.int .i64 1) := cell_of_row _ _ 0 _ 62 (0, 0) HZ.out.2.2.1
              have p0 : wr.cell? ⟨pb + 2, 0, none⟩ = some (.int .i64 0) := cell_of_row _ _ 0 _ 32 (0, 0) HZ.out.2.1
              have p1 : wr.cell? ⟨pb + 2, 1, none⟩ = some (.slice none 0 0) := cell_of_row _ _ 1 _ 32 (0, 0) HZ.out.2.1
              have p2 : wr.cell? ⟨pb + 2, 2, none⟩ = some (.slice none 0 0) := cell_of_row _ _ 2 _ 32 (0, 0) HZ.out.2.1
              have z0 : wr.frozen? ⟨pb + 2, 0, none⟩ = false := frozen_of_row _ _ 0 _ _ HZ.out.2.1
              have z1 : wr.frozen? ⟨pb + 2, 1, none⟩ = false := frozen_of_row _ _ 1 _ _ HZ.out.2.1
              have z2 : wr.frozen? ⟨pb + 2, 2, none⟩ = false := frozen_of_row _ _ 2 _ _ HZ.out.2.1
              go_wp2_with fail
              have hh := three_heap HZ.out.2.1 (.int .i64 n) (.slice SA stash.length sc) (.slice (some ⟨wb, 0, none⟩) waves.length wq)
              have hsame : ∀ b, pb + 3 ≤ b → (((wr.setCell ⟨pb + 2, 0, none⟩ (.int .i64 n)).setCell ⟨pb + 2, 1, none⟩ (.slice SA stash.length sc)).setCell ⟨pb + 2, 2, none⟩ (.slice (some ⟨wb, 0, none⟩) waves.length wq)).heap[b]? = wr.heap[b]? := fun b hb => by
                rw [heap_setCell_other _ _ _ _ (by simp only; omega), heap_setCell_other _ _ _ _ (by simp only; omega), heap_setCell_other _ _ _ _ (by simp only; omega)]
              have hws : wr.heap.size ≤ (((wr.setCell ⟨pb + 2, 0, none⟩ (.int .i64 n)).setCell ⟨pb + 2, 1, none⟩ (.slice SA stash.length sc)).setCell ⟨pb + 2, 2, none⟩ (.slice (some ⟨wb, 0, none⟩) waves.length wq)).heap.size := by simp
              have hbel : Below pb w (((wr.setCell ⟨pb + 2, 0, none⟩ (.int .i64 n)).setCell ⟨pb + 2, 1, none⟩ (.slice SA stash.length sc)).setCell ⟨pb + 2, 2, none⟩ (.slice (some ⟨wb, 0, none⟩) waves.length wq)) := ((HZ.out.2.2.2.setCell (p := ⟨pb + 2, 0, none⟩) (by simp) _).setCell (p := ⟨pb + 2, 1, none⟩) (by simp) _).setCell (p := ⟨pb + 2, 2, none⟩) (by simp) _
              show bodyPost _ _ _ _ _ (((wr.setCell ⟨pb + 2, 0, none⟩ (.int .i64 n)).setCell ⟨pb + 2, 1, none⟩ (.slice SA stash.length sc)).setCell ⟨pb + 2, 2, none⟩ (.slice (some ⟨wb, 0, none⟩) waves.length wq))
              obtain ⟨wf, hwf⟩ : ∃ wf, wf = (((wr.setCell ⟨pb + 2, 0, none⟩ (.int .i64 n)).setCell ⟨pb + 2, 1, none⟩ (.slice SA stash.length sc)).setCell ⟨pb + 2, 2, none⟩ (.slice (some ⟨wb, 0, none⟩) waves.length wq)) := ⟨_, rfl⟩
              rw [← hwf] at hh hsame hws hbel
              rw [← hwf]
              clear hwf
              have e0 : wf.cell? ⟨pb + 2, 0, none⟩ = some (.int .i64 n) := cell_of_row _ _ 0 _ 32 (0, 0) hh
              have e1 : wf.cell? ⟨pb + 2, 1, none⟩ = some (.slice SA stash.length sc) := cell_of_row _ _ 1 _ 32 (0, 0) hh
              have e2 : wf.cell? ⟨pb + 2, 2, none⟩ = some (.slice (some ⟨wb, 0, none⟩) waves.length wq) := cell_of_row _ _ 2 _ 32 (0, 0) hh
              refine bodyPost_ret (v := .agg #[.int .i64 n, .slice SA stash.length sc, .slice (some ⟨wb, 0, none⟩) waves.length wq]) (by simp [results, Try.results31, go_sem, e0, e1, e2]) rfl ?_
              obtain rfl := HPB.out
              exact ⟨⟨⟨n, SA, sc, stash, (some ⟨wb, 0, none⟩), wq, waves⟩, rfl, fun wf2 hs hk => HEV.out wf2 (by omega) (fun b hb => (hk b (by omega)).trans (hsame b hb))⟩, hbel⟩
            · have hpd : decide (0 < parts.length) = true := decide_eq_true (by omega)
              have u1 : wr.cell? ⟨vs, 1, none⟩ = some (.slice PA parts.length pc) := cell_of_row _ _ 1 _ 70 (0, 0) HB1.out
              obtain ⟨ξ, hξ⟩ : ∃ ξ : Int, by_ % 900 = ξ := ⟨_, rfl⟩
              have hξ0 : 0 ≤ ξ ∧ ξ < 900 := by have := Int.emod_nonneg by_ (show (900 : Int) ≠ 0 by omega); have := Int.emod_lt_of_pos by_ (show (0 : Int) < 900 by omega); omega
              have HPK : Hid (∀ W : World, Calls Try.prog 30 #[.int .i64 by_, .int .i64 900] W fun e w' => e = .returned (.int .i64 ξ) ∧ W = w') := Lib.hid (fun W => by
                have h := Pick_any by_ 900 W (by omega) (by omega) h3.1 h3.2
                rw [hξ] at h
                exact h)
              clear hξ
              obtain ⟨q0, hq0⟩ := Sc.get_some parts κ (by omega)
              have hpw := (HOE.out.ws _ (List.mem_of_getElem? HVV.out)).parts _ (List.mem_of_getElem? HSS.out)
              simp only at hpw
              obtain ⟨pab, poff, hPA, hpab, q1, q2, q3⟩ := hpw.rd κ q0 hq0
              have hpo : poff = 0 := by
                obtain ⟨g, hg, _⟩ := hpw.form (by omega)
                rw [hPA] at hg
                injection hg with hg
                injection hg
              subst hpo; subst hPA
              obtain ⟨hplo, _, cs48, hc48⟩ := row_in hpw.2 (b := pab) (inA_some.2 rfl)
              have hne1 : qb ≠ pab := fun e => by
                have h := HZ.out.1
                rw [e, hc48] at h
                injection h with h
                injection h with _ h _
                cases h
              have hne2 : vs ≠ pab := fun e => by
                have h := HB1.out
                rw [e, hc48] at h
                injection h with h
                injection h with _ h _
                cases h
              have gx : wr.cell? ⟨pab, κ * 3 + 1, none⟩ = some (.int .i64 q0.at_) := by simpa using q2
              have zx : wr.frozen? ⟨pab, κ * 3 + 1, none⟩ = false := frozen_of_row wr pab (κ * 3 + 1) cs48 48 hc48
              have o2 : (0 : Int) ≤ (κ : Int) := by omega
              have o3 : (κ : Int) < (parts.length : Int) := by omega
              clear hq0 hpw q1 q2 q3 hc48
              have k0 : wr.cell? ⟨pb + 1, 0, none⟩ = some (.int .i64 1) := cell_of_row _ _ 0 _ 62 (0, 0) HZ.out.2.2.1
              have g0 : wr.cell? ⟨vs, 1, none⟩ = some (.slice (some ⟨pab, 0, none⟩) parts.length pc) := cell_of_row _ _ 1 _ 70 (0, 0) HB1.out
              have m0 : (wr.setCell ⟨pab, κ * 3 + 1, none⟩ (.int .i64 ξ)).drew.cell? ⟨vs, 1, none⟩ = some (.slice (some ⟨pab, 0, none⟩) parts.length pc) := (World.cell?_setCell_far wr ⟨pab, κ * 3 + 1, none⟩ ⟨vs, 1, none⟩ _ (fun e => hne2 e.symm)).trans g0
              have g1 : wr.cell? ⟨pb + 1, 3, none⟩ = some (.int .i64 by_) := cell_of_row _ _ 3 _ 62 (0, 0) HZ.out.2.2.1
              have m1 : (wr.setCell ⟨pab, κ * 3 + 1, none⟩ (.int .i64 ξ)).drew.cell? ⟨pb + 1, 3, none⟩ = some (.int .i64 by_) := (World.cell?_setCell_far wr ⟨pab, κ * 3 + 1, none⟩ ⟨pb + 1, 3, none⟩ _ (by simp only; omega)).trans g1
              have HTR9 : Hid (Trn W5 (wr.setCell ⟨pab, κ * 3 + 1, none⟩ (.int .i64 ξ)).drew (pb + 3)) := Lib.hid (HTR.out.trans (Trn.set (w := wr) (lo := pb + 3) (x0 := ξ) gx (by unfold I64; omega))).drew
              have hsm9 : ∀ b, b ≠ pab → (wr.setCell ⟨pab, κ * 3 + 1, none⟩ (.int .i64 ξ)).drew.heap[b]? = wr.heap[b]? := fun b hb => heap_setCell_other wr _ _ _ hb
              have HZ9 : Hid ((wr.setCell ⟨pab, κ * 3 + 1, none⟩ (.int .i64 ξ)).drew.heap[qb]? = some (.cells #[.int .i64 n, .slice SA stash.length sc, .slice (some ⟨wb, 0, none⟩) waves.length wq] 32 (0, 0)) ∧ (wr.setCell ⟨pab, κ * 3 + 1, none⟩ (.int .i64 ξ)).drew.heap[pb + 2]? = some (.cells #[.int .i64 0, .slice none 0 0, .slice none 0 0] 32 (0, 0)) ∧ (wr.setCell ⟨pab, κ * 3 + 1, none⟩ (.int .i64 ξ)).drew.heap[pb + 1]? = some (.cells #[.int .i64 1, .int .i64 wave, .int .i64 at_, .int .i64 by_] 62 (0, 0)) ∧ Below pb w (wr.setCell ⟨pab, κ * 3 + 1, none⟩ (.int .i64 ξ)).drew) := Lib.hid ⟨(hsm9 qb hne1).trans HZ.out.1, (hsm9 (pb + 2) (by omega)).trans HZ.out.2.1, (hsm9 (pb + 1) (by omega)).trans HZ.out.2.2.1, belowDrewN (HZ.out.2.2.2.setCell (by simp only; omega) _) 1⟩
              have hqw9 : qb < (wr.setCell ⟨pab, κ * 3 + 1, none⟩ (.int .i64 ξ)).drew.heap.size := by simp; exact hqw
              clear hsm9
              go_upto_region 15 with (fail)
              go_region_held3 (fun w' => w'.cell? ⟨vs, 1, none⟩ = some (.slice (some ⟨pab, 0, none⟩) parts.length pc) ∧ w'.cell? ⟨pb + 1, 3, none⟩ = some (.int .i64 by_))
                (first | exact ⟨g0, g1⟩ | exact ⟨m0, m1⟩ | (go_keep; done))
                ((first | (go_at_call 30; refine (HPK.out _).mono ?_; rintro e w4 ⟨rfl, rfl⟩) | fail))
              all_goals
                clear gx zx k0 g0 m0 g1 m1
                clear HZ HTR hqw HOE
                have HZ := HZ9; have HTR := HTR9; have hqw := hqw9
                clear HZ9 HTR9 hqw9
                generalize (wr.setCell ⟨pab, κ * 3 + 1, none⟩ (.int .i64 ξ)).drew = wr at *
                have HEV : Hid (∀ wf : World, wr.heap.size ≤ wf.heap.size → (∀ b, pb + 3 ≤ b → wf.heap[b]? = wr.heap[b]?) → ∃ q : PlV, PlOk wf wf.heap.size q ∧ q.cells = PlV.cells ⟨n, SA, sc, stash, (some ⟨wb, 0, none⟩), wq, waves⟩ ∧ Sml q (M + 1) 64) := Lib.hid (fun wf hs hk => by
                  obtain ⟨q, h1, h2, h3⟩ := HO5.out.turned (HTR.out.trans (Trn.box hs hk)) HBI.out.1 HBI.out.2.1 HBI.out.2.2
                  exact ⟨q, h1, h2, (h3 _ _ HSM.out).more (by omega)⟩)
                have c0 : wr.cell? ⟨qb, 0, none⟩ = some (.int .i64 n) := cell_of_row _ _ 0 _ 32 (0, 0) HZ.out.1
                have c1 : wr.cell? ⟨qb, 1, none⟩ = some (.slice SA stash.length sc) := cell_of_row _ _ 1 _ 32 (0, 0) HZ.out.1
                have c2 : wr.cell? ⟨qb, 2, none⟩ = some (.slice (some ⟨wb, 0, none⟩) waves.length wq) := cell_of_row _ _ 2 _ 32 (0, 0) HZ.out.1
                have k0 : wr.cell? ⟨pb + 1, 0, none⟩ = some (.int .i64 1) := cell_of_row _ _ 0 _ 62 (0, 0) HZ.out.2.2.1
                have p0 : wr.cell? ⟨pb + 2, 0, none⟩ = some (.int .i64 0) := cell_of_row _ _ 0 _ 32 (0, 0) HZ.out.2.1
                have p1 : wr.cell? ⟨pb + 2, 1, none⟩ = some (.slice none 0 0) := cell_of_row _ _ 1 _ 32 (0, 0) HZ.out.2.1
                have p2 : wr.cell? ⟨pb + 2, 2, none⟩ = some (.slice none 0 0) := cell_of_row _ _ 2 _ 32 (0, 0) HZ.out.2.1
                have z0 : wr.frozen? ⟨pb + 2, 0, none⟩ = false := frozen_of_row _ _ 0 _ _ HZ.out.2.1
                have z1 : wr.frozen? ⟨pb + 2, 1, none⟩ = false := frozen_of_row _ _ 1 _ _ HZ.out.2.1
                have z2 : wr.frozen? ⟨pb + 2, 2, none⟩ = false := frozen_of_row _ _ 2 _ _ HZ.out.2.1
                go_wp2_with fail
                have hh := three_heap HZ.out.2.1 (.int .i64 n) (.slice SA stash.length sc) (.slice (some ⟨wb, 0, none⟩) waves.length wq)
                have hsame : ∀ b, pb + 3 ≤ b → (((wr.setCell ⟨pb + 2, 0, none⟩ (.int .i64 n)).setCell ⟨pb + 2, 1, none⟩ (.slice SA stash.length sc)).setCell ⟨pb + 2, 2, none⟩ (.slice (some ⟨wb, 0, none⟩) waves.length wq)).heap[b]? = wr.heap[b]? := fun b hb => by
                  rw [heap_setCell_other _ _ _ _ (by simp only; omega), heap_setCell_other _ _ _ _ (by simp only; omega), heap_setCell_other _ _ _ _ (by simp only; omega)]
                have hws : wr.heap.size ≤ (((wr.setCell ⟨pb + 2, 0, none⟩ (.int .i64 n)).setCell ⟨pb + 2, 1, none⟩ (.slice SA stash.length sc)).setCell ⟨pb + 2, 2, none⟩ (.slice (some ⟨wb, 0, none⟩) waves.length wq)).heap.size := by simp
                have hbel : Below pb w (((wr.setCell ⟨pb + 2, 0, none⟩ (.int .i64 n)).setCell ⟨pb + 2, 1, none⟩ (.slice SA stash.length sc)).setCell ⟨pb + 2, 2, none⟩ (.slice (some ⟨wb, 0, none⟩) waves.length wq)) := ((HZ.out.2.2.2.setCell (p := ⟨pb + 2, 0, none⟩) (by simp) _).setCell (p := ⟨pb + 2, 1, none⟩) (by simp) _).setCell (p := ⟨pb + 2, 2, none⟩) (by simp) _
                show bodyPost _ _ _ _ _ (((wr.setCell ⟨pb + 2, 0, none⟩ (.int .i64 n)).setCell ⟨pb + 2, 1, none⟩ (.slice SA stash.length sc)).setCell ⟨pb + 2, 2, none⟩ (.slice (some ⟨wb, 0, none⟩) waves.length wq))
                obtain ⟨wf, hwf⟩ : ∃ wf, wf = (((wr.setCell ⟨pb + 2, 0, none⟩ (.int .i64 n)).setCell ⟨pb + 2, 1, none⟩ (.slice SA stash.length sc)).setCell ⟨pb + 2, 2, none⟩ (.slice (some ⟨wb, 0, none⟩) waves.length wq)) := ⟨_, rfl⟩
                rw [← hwf] at hh hsame hws hbel
                rw [← hwf]
                clear hwf
                have e0 : wf.cell? ⟨pb + 2, 0, none⟩ = some (.int .i64 n) := cell_of_row _ _ 0 _ 32 (0, 0) hh
                have e1 : wf.cell? ⟨pb + 2, 1, none⟩ = some (.slice SA stash.length sc) := cell_of_row _ _ 1 _ 32 (0, 0) hh
                have e2 : wf.cell? ⟨pb + 2, 2, none⟩ = some (.slice (some ⟨wb, 0, none⟩) waves.length wq) := cell_of_row _ _ 2 _ 32 (0, 0) hh
                refine bodyPost_ret (v := .agg #[.int .i64 n, .slice SA stash.length sc, .slice (some ⟨wb, 0, none⟩) waves.length wq]) (by simp [results, Try.results31, go_sem, e0, e1, e2]) rfl ?_
                obtain rfl := HPB.out
                exact ⟨⟨⟨n, SA, sc, stash, (some ⟨wb, 0, none⟩), wq, waves⟩, rfl, fun wf2 hs hk => HEV.out wf2 (by omega) (fun b hb => (hk b (by omega)).trans (hsame b hb))⟩, hbel⟩
          · by_cases e2 : how = 2
            · subst e2
              by_cases hp0 : parts.length = 0
              · have hpd : decide (0 < parts.length) = false := decide_eq_false (by omega)
                clear hp0
                have k0 : wr.cell? ⟨pb + 1, 0, none⟩ = some (.int .i64 2) := cell_of_row _ _ 0 _ 62 (0, 0) HZ.out.2.2.1
                have u1 : wr.cell? ⟨vs, 1, none⟩ = some (.slice PA parts.length pc) := cell_of_row _ _ 1 _ 70 (0, 0) HB1.out
                have HEV : Hid (∀ wf : World, wr.heap.size ≤ wf.heap.size → (∀ b, pb + 3 ≤ b → wf.heap[b]? = wr.heap[b]?) → ∃ q : PlV, PlOk wf wf.heap.size q ∧ q.cells = PlV.cells ⟨n, SA, sc, stash, (some ⟨wb, 0, none⟩), wq, waves⟩ ∧ Sml q (M + 1) 64) := Lib.hid (fun wf hs hk => by
                  obtain ⟨q, h1, h2, h3⟩ := HO5.out.turned (HTR.out.trans (Trn.box hs hk)) HBI.out.1 HBI.out.2.1 HBI.out.2.2
                  exact ⟨q, h1, h2, (h3 _ _ HSM.out).more (by omega)⟩)
                have c0 : wr.cell? ⟨qb, 0, none⟩ = some (.int .i64 n) := cell_of_row _ _ 0 _ 32 (0, 0) HZ.out.1
                have c1 : wr.cell? ⟨qb, 1, none⟩ = some (.slice SA stash.length sc) := cell_of_row _ _ 1 _ 32 (0, 0) HZ.out.1
                have c2 : wr.cell? ⟨qb, 2, none⟩ = some (.slice (some ⟨wb, 0, none⟩) waves.length wq) := cell_of_row _ _ 2 _ 32 (0, 0) HZ.out.1
                have k0_ : wr.cell? ⟨pb + 1, 0, none⟩ = some (.int .i64 2) := cell_of_row _ _ 0 _ 62 (0, 0) HZ.out.2.2.1
                have p0 : wr.cell? ⟨pb + 2, 0, none⟩ = some (.int .i64 0) := cell_of_row _ _ 0 _ 32 (0, 0) HZ.out.2.1
                have p1 : wr.cell? ⟨pb + 2, 1, none⟩ = some (.slice none 0 0) := cell_of_row _ _ 1 _ 32 (0, 0) HZ.out.2.1
                have p2 : wr.cell? ⟨pb + 2, 2, none⟩ = some (.slice none 0 0) := cell_of_row _ _ 2 _ 32 (0, 0) HZ.out.2.1
                have z0 : wr.frozen? ⟨pb + 2, 0, none⟩ = false := frozen_of_row _ _ 0 _ _ HZ.out.2.1
                have z1 : wr.frozen? ⟨pb + 2, 1, none⟩ = false := frozen_of_row _ _ 1 _ _ HZ.out.2.1
                have z2 : wr.frozen? ⟨pb + 2, 2, none⟩ = false := frozen_of_row _ _ 2 _ _ HZ.out.2.1
                go_wp2_with fail
                have hh := three_heap HZ.out.2.1 (.int .i64 n) (.slice SA stash.length sc) (.slice (some ⟨wb, 0, none⟩) waves.length wq)
                have hsame : ∀ b, pb + 3 ≤ b → (((wr.setCell ⟨pb + 2, 0, none⟩ (.int .i64 n)).setCell ⟨pb + 2, 1, none⟩ (.slice SA stash.length sc)).setCell ⟨pb + 2, 2, none⟩ (.slice (some ⟨wb, 0, none⟩) waves.length wq)).heap[b]? = wr.heap[b]? := fun b hb => by
                  rw [heap_setCell_other _ _ _ _ (by simp only; omega), heap_setCell_other _ _ _ _ (by simp only; omega), heap_setCell_other _ _ _ _ (by simp only; omega)]
                have hws : wr.heap.size ≤ (((wr.setCell ⟨pb + 2, 0, none⟩ (.int .i64 n)).setCell ⟨pb + 2, 1, none⟩ (.slice SA stash.length sc)).setCell ⟨pb + 2, 2, none⟩ (.slice (some ⟨wb, 0, none⟩) waves.length wq)).heap.size := by simp
                have hbel : Below pb w (((wr.setCell ⟨pb + 2, 0, none⟩ (.int .i64 n)).setCell ⟨pb + 2, 1, none⟩ (.slice SA stash.length sc)).setCell ⟨pb + 2, 2, none⟩ (.slice (some ⟨wb, 0, none⟩) waves.length wq)) := ((HZ.out.2.2.2.setCell (p := ⟨pb + 2, 0, none⟩) (by simp) _).setCell (p := ⟨pb + 2, 1, none⟩) (by simp) _).setCell (p := ⟨pb + 2, 2, none⟩) (by simp) _
                show bodyPost _ _ _ _ _ (((wr.setCell ⟨pb + 2, 0, none⟩ (.int .i64 n)).setCell ⟨pb + 2, 1, none⟩ (.slice SA stash.length sc)).setCell ⟨pb + 2, 2, none⟩ (.slice (some ⟨wb, 0, none⟩) waves.length wq))
                obtain ⟨wf, hwf⟩ : ∃ wf, wf = (((wr.setCell ⟨pb + 2, 0, none⟩ (.int .i64 n)).setCell ⟨pb + 2, 1, none⟩ (.slice SA stash.length sc)).setCell ⟨pb + 2, 2, none⟩ (.slice (some ⟨wb, 0, none⟩) waves.length wq)) := ⟨_, rfl⟩
                rw [← hwf] at hh hsame hws hbel
                rw [← hwf]
                clear hwf
                have e0 : wf.cell? ⟨pb + 2, 0, none⟩ = some (.int .i64 n) := cell_of_row _ _ 0 _ 32 (0, 0) hh
                have e1 : wf.cell? ⟨pb + 2, 1, none⟩ = some (.slice SA stash.length sc) := cell_of_row _ _ 1 _ 32 (0, 0) hh
                have e2 : wf.cell? ⟨pb + 2, 2, none⟩ = some (.slice (some ⟨wb, 0, none⟩) waves.length wq) := cell_of_row _ _ 2 _ 32 (0, 0) hh
                refine bodyPost_ret (v := .agg #[.int .i64 n, .slice SA stash.length sc, .slice (some ⟨wb, 0, none⟩) waves.length wq]) (by simp [results, Try.results31, go_sem, e0, e1, e2]) rfl ?_
                obtain rfl := HPB.out
                exact ⟨⟨⟨n, SA, sc, stash, (some ⟨wb, 0, none⟩), wq, waves⟩, rfl, fun wf2 hs hk => HEV.out wf2 (by omega) (fun b hb => (hk b (by omega)).trans (hsame b hb))⟩, hbel⟩
              · have hpd : decide (0 < parts.length) = true := decide_eq_true (by omega)
                have u1 : wr.cell? ⟨vs, 1, none⟩ = some (.slice PA parts.length pc) := cell_of_row _ _ 1 _ 70 (0, 0) HB1.out
                obtain ⟨ξ, hξ⟩ : ∃ ξ : Int, by_ % 4 = ξ := ⟨_, rfl⟩
                have hξ0 : 0 ≤ ξ ∧ ξ < 4 := by have := Int.emod_nonneg by_ (show (4 : Int) ≠ 0 by omega); have := Int.emod_lt_of_pos by_ (show (0 : Int) < 4 by omega); omega
                have HPK : Hid (∀ W : World, Calls Try.prog 30 #[.int .i64 by_, .int .i64 4] W fun e w' => e = .returned (.int .i64 ξ) ∧ W = w') := Lib.hid (fun W => by
                  have h := Pick_any by_ 4 W (by omega) (by omega) h3.1 h3.2
                  rw [hξ] at h
                  exact h)
                clear hξ
                obtain ⟨q0, hq0⟩ := Sc.get_some parts κ (by omega)
                have hpw := (HOE.out.ws _ (List.mem_of_getElem? HVV.out)).parts _ (List.mem_of_getElem? HSS.out)
                simp only at hpw
                obtain ⟨pab, poff, hPA, hpab, q1, q2, q3⟩ := hpw.rd κ q0 hq0
                have hpo : poff = 0 := by
                  obtain ⟨g, hg, _⟩ := hpw.form (by omega)
                  rw [hPA] at hg
                  injection hg with hg
                  injection hg
                subst hpo; subst hPA
                obtain ⟨hplo, _, cs48, hc48⟩ := row_in hpw.2 (b := pab) (inA_some.2 rfl)
                have hne1 : qb ≠ pab := fun e => by
                  have h := HZ.out.1
                  rw [e, hc48] at h
                  injection h with h
                  injection h with _ h _
                  cases h
                have hne2 : vs ≠ pab := fun e => by
                  have h := HB1.out
                  rw [e, hc48] at h
                  injection h with h
                  injection h with _ h _
                  cases h
                have gx : wr.cell? ⟨pab, κ * 3, none⟩ = some (.int .i64 q0.src) := by simpa using q1
                have zx : wr.frozen? ⟨pab, κ * 3, none⟩ = false := frozen_of_row wr pab (κ * 3) cs48 48 hc48
                have o2 : (0 : Int) ≤ (κ : Int) := by omega
                have o3 : (κ : Int) < (parts.length : Int) := by omega
                clear hq0 hpw q1 q2 q3 hc48
                have k0 : wr.cell? ⟨pb + 1, 0, none⟩ = some (.int .i64 2) := cell_of_row _ _ 0 _ 62 (0, 0) HZ.out.2.2.1
                have g0 : wr.cell? ⟨vs, 1, none⟩ = some (.slice (some ⟨pab, 0, none⟩) parts.length pc) := cell_of_row _ _ 1 _ 70 (0, 0) HB1.out
                have m0 : (wr.setCell ⟨pab, κ * 3, none⟩ (.int .i64 ξ)).drew.cell? ⟨vs, 1, none⟩ = some (.slice (some ⟨pab, 0, none⟩) parts.length pc) := (World.cell?_setCell_far wr ⟨pab, κ * 3, none⟩ ⟨vs, 1, none⟩ _ (fun e => hne2 e.symm)).trans g0
                have g1 : wr.cell? ⟨pb + 1, 3, none⟩ = some (.int .i64 by_) := cell_of_row _ _ 3 _ 62 (0, 0) HZ.out.2.2.1
                have m1 : (wr.setCell ⟨pab, κ * 3, none⟩ (.int .i64 ξ)).drew.cell? ⟨pb + 1, 3, none⟩ = some (.int .i64 by_) := (World.cell?_setCell_far wr ⟨pab, κ * 3, none⟩ ⟨pb + 1, 3, none⟩ _ (by simp only; omega)).trans g1
                have HTR9 : Hid (Trn W5 (wr.setCell ⟨pab, κ * 3, none⟩ (.int .i64 ξ)).drew (pb + 3)) := Lib.hid (HTR.out.trans (Trn.set (w := wr) (lo := pb + 3) (x0 := ξ) gx (by unfold I64; omega))).drew
                have hsm9 : ∀ b, b ≠ pab → (wr.setCell ⟨pab, κ * 3, none⟩ (.int .i64 ξ)).drew.heap[b]? = wr.heap[b]? := fun b hb => heap_setCell_other wr _ _ _ hb
                have HZ9 : Hid ((wr.setCell ⟨pab, κ * 3, none⟩ (.int .i64 ξ)).drew.heap[qb]? = some (.cells #[.int .i64 n, .slice SA stash.length sc, .slice (some ⟨wb, 0, none⟩) waves.length wq] 32 (0, 0)) ∧ (wr.setCell ⟨pab, κ * 3, none⟩ (.int .i64 ξ)).drew.heap[pb + 2]? = some (.cells #[.int .i64 0, .slice none 0 0, .slice none 0 0] 32 (0, 0)) ∧ (wr.setCell ⟨pab, κ * 3, none⟩ (.int .i64 ξ)).drew.heap[pb + 1]? = some (.cells #[.int .i64 2, .int .i64 wave, .int .i64 at_, .int .i64 by_] 62 (0, 0)) ∧ Below pb w (wr.setCell ⟨pab, κ * 3, none⟩ (.int .i64 ξ)).drew) := Lib.hid ⟨(hsm9 qb hne1).trans HZ.out.1, (hsm9 (pb + 2) (by omega)).trans HZ.out.2.1, (hsm9 (pb + 1) (by omega)).trans HZ.out.2.2.1, belowDrewN (HZ.out.2.2.2.setCell (by simp only; omega) _) 1⟩
                have hqw9 : qb < (wr.setCell ⟨pab, κ * 3, none⟩ (.int .i64 ξ)).drew.heap.size := by simp; exact hqw
                clear hsm9
                go_upto_region 17 with (fail)
                go_region_held3 (fun w' => w'.cell? ⟨vs, 1, none⟩ = some (.slice (some ⟨pab, 0, none⟩) parts.length pc) ∧ w'.cell? ⟨pb + 1, 3, none⟩ = some (.int .i64 by_))
                  (first | exact ⟨g0, g1⟩ | exact ⟨m0, m1⟩ | (go_keep; done))
                  ((first | (go_at_call 30; refine (HPK.out _).mono ?_; rintro e w4 ⟨rfl, rfl⟩) | fail))
                all_goals
                  clear gx zx k0 g0 m0 g1 m1
                  clear HZ HTR hqw HOE
                  have HZ := HZ9; have HTR := HTR9; have hqw := hqw9
                  clear HZ9 HTR9 hqw9
                  generalize (wr.setCell ⟨pab, κ * 3, none⟩ (.int .i64 ξ)).drew = wr at *
                  have HEV : Hid (∀ wf : World, wr.heap.size ≤ wf.heap.size → (∀ b, pb + 3 ≤ b → wf.heap[b]? = wr.heap[b]?) → ∃ q : PlV, PlOk wf wf.heap.size q ∧ q.cells = PlV.cells ⟨n, SA, sc, stash, (some ⟨wb, 0, none⟩), wq, waves⟩ ∧ Sml q (M + 1) 64) := Lib.hid (fun wf hs hk => by
                    obtain ⟨q, h1, h2, h3⟩ := HO5.out.turned (HTR.out.trans (Trn.box hs hk)) HBI.out.1 HBI.out.2.1 HBI.out.2.2
                    exact ⟨q, h1, h2, (h3 _ _ HSM.out).more (by omega)⟩)
                  have c0 : wr.cell? ⟨qb, 0, none⟩ = some (.int .i64 n) := cell_of_row _ _ 0 _ 32 (0, 0) HZ.out.1
                  have c1 : wr.cell? ⟨qb, 1, none⟩ = some (.slice SA stash.length sc) := cell_of_row _ _ 1 _ 32 (0, 0) HZ.out.1
                  have c2 : wr.cell? ⟨qb, 2, none⟩ = some (.slice (some ⟨wb, 0, none⟩) waves.length wq) := cell_of_row _ _ 2 _ 32 (0, 0) HZ.out.1
                  have k0 : wr.cell? ⟨pb + 1, 0, none⟩ = some (.int .i64 2) := cell_of_row _ _ 0 _ 62 (0, 0) HZ.out.2.2.1
                  have p0 : wr.cell? ⟨pb + 2, 0, none⟩ = some (.int .i64 0) := cell_of_row _ _ 0 _ 32 (0, 0) HZ.out.2.1
                  have p1 : wr.cell? ⟨pb + 2, 1, none⟩ = some (.slice none 0 0) := cell_of_row _ _ 1 _ 32 (0, 0) HZ.out.2.1
                  have p2 : wr.cell? ⟨pb + 2, 2, none⟩ = some (.slice none 0 0) := cell_of_row _ _ 2 _ 32 (0, 0) HZ.out.2.1
                  have z0 : wr.frozen? ⟨pb + 2, 0, none⟩ = false := frozen_of_row _ _ 0 _ _ HZ.out.2.1
                  have z1 : wr.frozen? ⟨pb + 2, 1, none⟩ = false := frozen_of_row _ _ 1 _ _ HZ.out.2.1
                  have z2 : wr.frozen? ⟨pb + 2, 2, none⟩ = false := frozen_of_row _ _ 2 _ _ HZ.out.2.1
                  go_wp2_with fail
                  have hh := three_heap HZ.out.2.1 (.int .i64 n) (.slice SA stash.length sc) (.slice (some ⟨wb, 0, none⟩) waves.length wq)
                  have hsame : ∀ b, pb + 3 ≤ b → (((wr.setCell ⟨pb + 2, 0, none⟩ (.int .i64 n)).setCell ⟨pb + 2, 1, none⟩ (.slice SA stash.length sc)).setCell ⟨pb + 2, 2, none⟩ (.slice (some ⟨wb, 0, none⟩) waves.length wq)).heap[b]? = wr.heap[b]? := fun b hb => by
                    rw [heap_setCell_other _ _ _ _ (by simp only; omega), heap_setCell_other _ _ _ _ (by simp only; omega), heap_setCell_other _ _ _ _ (by simp only; omega)]
                  have hws : wr.heap.size ≤ (((wr.setCell ⟨pb + 2, 0, none⟩ (.int .i64 n)).setCell ⟨pb + 2, 1, none⟩ (.slice SA stash.length sc)).setCell ⟨pb + 2, 2, none⟩ (.slice (some ⟨wb, 0, none⟩) waves.length wq)).heap.size := by simp
                  have hbel : Below pb w (((wr.setCell ⟨pb + 2, 0, none⟩ (.int .i64 n)).setCell ⟨pb + 2, 1, none⟩ (.slice SA stash.length sc)).setCell ⟨pb + 2, 2, none⟩ (.slice (some ⟨wb, 0, none⟩) waves.length wq)) := ((HZ.out.2.2.2.setCell (p := ⟨pb + 2, 0, none⟩) (by simp) _).setCell (p := ⟨pb + 2, 1, none⟩) (by simp) _).setCell (p := ⟨pb + 2, 2, none⟩) (by simp) _
                  show bodyPost _ _ _ _ _ (((wr.setCell ⟨pb + 2, 0, none⟩ (.int .i64 n)).setCell ⟨pb + 2, 1, none⟩ (.slice SA stash.length sc)).setCell ⟨pb + 2, 2, none⟩ (.slice (some ⟨wb, 0, none⟩) waves.length wq))
                  obtain ⟨wf, hwf⟩ : ∃ wf, wf = (((wr.setCell ⟨pb + 2, 0, none⟩ (.int .i64 n)).setCell ⟨pb + 2, 1, none⟩ (.slice SA stash.length sc)).setCell ⟨pb + 2, 2, none⟩ (.slice (some ⟨wb, 0, none⟩) waves.length wq)) := ⟨_, rfl⟩
                  rw [← hwf] at hh hsame hws hbel
                  rw [← hwf]
                  clear hwf
                  have e0 : wf.cell? ⟨pb + 2, 0, none⟩ = some (.int .i64 n) := cell_of_row _ _ 0 _ 32 (0, 0) hh
                  have e1 : wf.cell? ⟨pb + 2, 1, none⟩ = some (.slice SA stash.length sc) := cell_of_row _ _ 1 _ 32 (0, 0) hh
                  have e2 : wf.cell? ⟨pb + 2, 2, none⟩ = some (.slice (some ⟨wb, 0, none⟩) waves.length wq) := cell_of_row _ _ 2 _ 32 (0, 0) hh
                  refine bodyPost_ret (v := .agg #[.int .i64 n, .slice SA stash.length sc, .slice (some ⟨wb, 0, none⟩) waves.length wq]) (by simp [results, Try.results31, go_sem, e0, e1, e2]) rfl ?_
                  obtain rfl := HPB.out
                  exact ⟨⟨⟨n, SA, sc, stash, (some ⟨wb, 0, none⟩), wq, waves⟩, rfl, fun wf2 hs hk => HEV.out wf2 (by omega) (fun b hb => (hk b (by omega)).trans (hsame b hb))⟩, hbel⟩
            · by_cases e3 : how = 3
              · subst e3
                exact absurd rfl H3.out
              · by_cases e4 : how = 4
                · subst e4
                  have k0 : wr.cell? ⟨pb + 1, 0, none⟩ = some (.int .i64 4) := cell_of_row _ _ 0 _ 62 (0, 0) HZ.out.2.2.1
                  have u0 : wr.cell? ⟨vs, 0, none⟩ = some (.int .i64 yb) := cell_of_row _ _ 0 _ 70 (0, 0) HB1.out
                  have u1 : wr.cell? ⟨vs, 1, none⟩ = some (.slice PA parts.length pc) := cell_of_row _ _ 1 _ 70 (0, 0) HB1.out
                  have c2 : wr.cell? ⟨qb, 2, none⟩ = some (.slice (some ⟨wb, 0, none⟩) waves.length wq) := cell_of_row _ _ 2 _ 32 (0, 0) HZ.out.1
                  obtain ⟨b43, e43, _, v0⟩ := HOE.out.wv.cellAt HVV.out
                  simp only [Option.some.injEq, Addr.mk.injEq, and_true] at e43
                  subst e43
                  simp only at v0
                  obtain ⟨_, hwbl, cs43, hc43⟩ := HOE.out.wv.ty (b := wb) (inA_some.2 rfl)
                  have zb : wr.frozen? ⟨wb, ω, none⟩ = false := frozen_of_row wr wb ω cs43 43 hc43
                  have HVW := Lib.hid (HOE.out.ws _ (List.mem_of_getElem? HVV.out))
                  have HRW : Hid (OwnS wr (pb + 3) (some ⟨stb, 0, none⟩) steps.length vc steps) := Lib.hid HVW.out.row
                  obtain ⟨_, hstl, cs70, hc70⟩ := HRW.out.ty (b := stb) (inA_some.2 rfl)
                  have hne1 : qb ≠ stb := fun e => by
                    have h := HZ.out.1
                    rw [e, hc70] at h
                    injection h with h
                    injection h with _ h _
                    cases h
                  have hne2 : wb ≠ stb := fun e => by
                    rw [e, hc70] at hc43
                    injection hc43 with h
                    injection h with _ h _
                    cases h
                  have hne3 : qb ≠ wb := fun e => by
                    have h := HZ.out.1
                    rw [e, hc43] at h
                    injection h with h
                    injection h with _ h _
                    cases h
                  have HNG : Hid (some wb ≠ (Value.slice (some ⟨stb, 0, none⟩) steps.length vc).ownBlock ∧ some qb ≠ (Value.slice (some ⟨stb, 0, none⟩) steps.length vc).ownBlock) := Lib.hid ⟨fun e => hne2 (by simpa [Value.ownBlock] using e), fun e => hne1 (by simpa [Value.ownBlock] using e)⟩
                  clear hc43 hc70
                  go_upto_region 22 with (fail)
                  have hal1 : Below wr.heap.size wr (wr.drew.alloc (.cells #[.int .i64 yb, .slice PA parts.length pc] 70)) := (Below.refl wr.heap.size wr).drew.alloc (Nat.le_refl _) _
                  have hR1 : OwnS (wr.drew.alloc (.cells #[.int .i64 yb, .slice PA parts.length pc] 70)) (pb + 3) (some ⟨stb, 0, none⟩) steps.length vc steps := HRW.out.same (fun b hb => hal1.block b (HRW.out.ty hb).2.1)
                  obtain ⟨v5, w5, hrun, hown5, hgrow5, _, hat5⟩ := run_append_own_at (P := Try.prog) (wr.drew.alloc (.cells #[.int .i64 yb, .slice PA parts.length pc] 70)) (pb + 3) 43 43 70 j0 _ 2 32 Try.underlying43 ji jz0 jz1 jz2 rfl (by decide) (.slice (some ⟨stb, 0, none⟩) steps.length vc) steps.length (stCells steps) hR1.2 ⟨wr.heap.size, 0, none⟩ 1 1 [.int .i64 yb, .slice PA parts.length pc] rfl (World.news_of_block (heap_alloc_new wr.drew _)) (by simp [Value.oneCell']) (by unfold maxLen; omega) (by omega) (by simp; omega)
                  obtain ⟨A5, k5, rfl⟩ := ext_of_ownS hown5
                  have cq0 : wr.drew.cell? ⟨qb, 2, none⟩ = some (.slice (some ⟨wb, 0, none⟩) waves.length wq) := c2
                  have cv0 : wr.drew.cell? ⟨wb, ω, none⟩ = some (.slice (some ⟨stb, 0, none⟩) steps.length vc) := v0
                  have cu0 : wr.drew.cell? ⟨vs, 0, none⟩ = some (.int .i64 yb) := u0
                  have cw0 : wr.drew.cell? ⟨vs, 1, none⟩ = some (.slice PA parts.length pc) := u1
                  have hvsw : vs < wr.heap.size := (Array.getElem?_eq_some_iff.1 HB1.out).1
                  have hvst : vs ≠ stb := by omega
                  have cq1 : (wr.drew.alloc (.cells #[.int .i64 yb, .slice PA parts.length pc] 70)).cell? ⟨qb, 2, none⟩ = _ := (hal1.cell (p := ⟨qb, 2, none⟩) hqw).trans c2
                  have cv1 : (wr.drew.alloc (.cells #[.int .i64 yb, .slice PA parts.length pc] 70)).cell? ⟨wb, ω, none⟩ = _ := (hal1.cell (p := ⟨wb, ω, none⟩) hwbl).trans v0
                  have cu1 : (wr.drew.alloc (.cells #[.int .i64 yb, .slice PA parts.length pc] 70)).cell? ⟨vs, 0, none⟩ = _ := (hal1.cell (p := ⟨vs, 0, none⟩) hvsw).trans u0
                  have cw1 : (wr.drew.alloc (.cells #[.int .i64 yb, .slice PA parts.length pc] 70)).cell? ⟨vs, 1, none⟩ = _ := (hal1.cell (p := ⟨vs, 1, none⟩) hvsw).trans u1
                  have hsz1 : wr.heap.size < (wr.drew.alloc (.cells #[.int .i64 yb, .slice PA parts.length pc] 70)).heap.size := by simp
                  have far5 : ∀ (b i : Nat), b < wr.heap.size → b ≠ stb → w5.cell? ⟨b, i, none⟩ = (wr.drew.alloc (.cells #[.int .i64 yb, .slice PA parts.length pc] 70)).cell? ⟨b, i, none⟩ := fun b i hb hne => hgrow5.cell_far ⟨b, i, none⟩ (by simp only; omega) (by simp only [Value.ownBlock]; intro e; injection e with e; exact hne e)
                  have cq2 := (far5 qb 2 hqw hne1).trans cq1
                  have cv2 := (far5 wb ω hwbl hne2).trans cv1
                  have cu2 := (far5 vs 0 hvsw hvst).trans cu1
                  have cw2 := (far5 vs 1 hvsw hvst).trans cw1
                  have zv2 : w5.frozen? ⟨wb, ω, none⟩ = false := (hgrow5.frozen_far ⟨wb, ω, none⟩ (by simp only; omega) (by simp only [Value.ownBlock]; intro e; injection e with e; exact hne2 e)).trans ((hal1.frozen (p := ⟨wb, ω, none⟩) hwbl).trans zb)
                  skip
                  refine wp_region_any (by kernel_rfl) ?_
                  change wpAny _ _ _ _ _ _ _ (World.drew _)
                  refine wpAny_invC (fun L a w' => ∃ T : Nat → Value, a = ⟨#[.agg #[.int .i64 n0, .slice SA0 stash0.length sc0, .slice WA0 waves0.length wq0], .agg #[.int .i64 4, .int .i64 wave, .int .i64 at_, .int .i64 by_], .pointer (some ⟨pb, 0, none⟩), .pointer (some ⟨pb + 1, 0, none⟩), .pointer (some ⟨pb + 2, 0, none⟩), .pointer (some ⟨qb, 0, none⟩), .int .i64 ↑ω, .int .i64 ↑α, .pointer (some ⟨vs, 0, none⟩), .int .i64 ↑κ, .agg #[.int .i64 n0, .slice SA0 stash0.length sc0, .slice WA0 waves0.length wq0], .agg #[.int .i64 n, .slice SA stash.length sc, .slice (some ⟨wb, 0, none⟩) waves.length wq], .pointer (some ⟨pb + 1, 0, none⟩), .int .i64 4, .bool false, .bool false, undef, undef, undef, undef, .bool false, undef, undef, undef, undef, undef, undef, undef, undef, undef, undef, undef, undef, undef, .pointer (some ⟨qb, 2, none⟩), .slice (some ⟨wb, 0, none⟩) waves.length wq, .int .i64 ↑waves.length, .bool false, undef, .pointer (some ⟨pb + 1, 1, none⟩), .int .i64 wave, .pointer (some ⟨qb, 2, none⟩), .slice (some ⟨wb, 0, none⟩) waves.length wq, .int .i64 ↑waves.length, .int .i64 ↑ω, .pointer (some ⟨qb, 2, none⟩), .slice (some ⟨wb, 0, none⟩) waves.length wq, .int .i64 ↑ω, .pointer (some ⟨wb, ω, none⟩), .slice (some ⟨stb, 0, none⟩) steps.length vc, .int .i64 ↑steps.length, .bool false, undef, .pointer (some ⟨pb + 1, 2, none⟩), .int .i64 at_, .pointer (some ⟨qb, 2, none⟩), .slice (some ⟨wb, 0, none⟩) waves.length wq, .int .i64 ↑ω, .pointer (some ⟨wb, ω, none⟩), .slice (some ⟨stb, 0, none⟩) steps.length vc, .int .i64 ↑steps.length, .int .i64 ↑α, .pointer (some ⟨qb, 2, none⟩), .slice (some ⟨wb, 0, none⟩) waves.length wq, .int .i64 ↑ω, .pointer (some ⟨wb, ω, none⟩), .slice (some ⟨stb, 0, none⟩) steps.length vc, .int .i64 ↑α, .pointer (some ⟨stb, α * 2, none⟩), .agg #[.int .i64 yb, .slice PA parts.length pc], .pointer (some ⟨pb + 1, 3, none⟩), .int .i64 by_, .pointer (some ⟨vs, 1, none⟩), .slice PA parts.length pc, .int .i64 ↑parts.length, .int .i64 ↑π, .int .i64 ↑κ, .bool false, .pointer (some ⟨pb + 1, 0, none⟩), .int .i64 4, .bool false, undef, undef, undef, undef, undef, undef, undef, undef, undef, undef, undef, undef, .bool false, .pointer (some ⟨pb + 1, 0, none⟩), .int .i64 4, .bool false, .bool false, undef, undef, undef, undef, .bool false, undef, undef, undef, undef, undef, undef, undef, undef, .bool false, .pointer (some ⟨pb + 1, 0, none⟩), .int .i64 4, .bool false, .bool false, undef, undef, undef, undef, .bool false, undef, undef, undef, undef, undef, undef, undef, undef, .bool false, .pointer (some ⟨pb + 1, 0, none⟩), .int .i64 4, .bool false, .bool false, undef, undef, undef, undef, undef, undef, .bool false, undef, undef, undef, undef, undef, undef, undef, undef, undef, undef, undef, undef, undef, undef, undef, undef, undef, undef, undef, undef, undef, undef, undef, undef, undef, undef, undef, undef, undef, undef, undef, undef, undef, undef, undef, undef, .bool true, .pointer (some ⟨pb + 1, 0, none⟩), .int .i64 4, .bool true, T 0, T 1, T 2, T 3, T 4, T 5, T 6, T 7, T 8, T 9, T 10, T 11, undef], []⟩ ∧ DW 12 (fun i => match i with | 0 => .pointer (some ⟨qb, 2, none⟩) | 1 => .slice (some ⟨wb, 0, none⟩) waves.length wq | 2 => .int .i64 (ω : Int) | 3 => .pointer (some ⟨qb, 2, none⟩) | 4 => .slice (some ⟨wb, 0, none⟩) waves.length wq | 5 => .int .i64 (ω : Int) | 6 => .pointer (some ⟨wb, ω, none⟩) | 7 => .slice (some ⟨stb, 0, none⟩) steps.length vc | 8 => .agg #[.int .i64 yb, .slice PA parts.length pc] | 9 => .slice (some ⟨wr.heap.size, 0, none⟩) 1 1 | 10 => .slice A5 (steps.length + 1) k5 | 11 => .pointer (some ⟨wb, ω, none⟩) | _ => undef) wr.drew [(12, (w5.setCell ⟨wb, ω, none⟩ (.slice A5 (steps.length + 1) k5))), (10, w5), (9, (wr.drew.alloc (.cells #[.int .i64 yb, .slice PA parts.length pc] 70)))] (Up L) T w') ?step ?done _ 13 _ _ rfl (by simp) ⟨fun _ => undef, rfl, ?init⟩
                  case init =>
                    have hno : ∀ j, ¬ Up (Array.replicate 13 false) j := fun j hj => by
                      unfold Up at hj
                      by_cases hlt : j < 13
                      · simp [Array.getD_eq_getD_getElem?, hlt] at hj
                      · simp [Array.getD_eq_getD_getElem?, hlt] at hj
                    exact ⟨fun i _ hu => absurd hu (hno i), by rw [wAt_no (hno _), wAt_no (hno _), wAt_no (hno _)]; rfl⟩
                  case done =>
                    intro L a w' hs hinv hr
                    obtain ⟨T, rfl, hR⟩ := hinv
                    have hall := up_all hs hr rfl (by kernel_rfl)
                    obtain rfl : w' = (w5.setCell ⟨wb, ω, none⟩ (.slice A5 (steps.length + 1) k5)) := hR.wd.trans (wAt_yes (x := (12, (w5.setCell ⟨wb, ω, none⟩ (.slice A5 (steps.length + 1) k5)))) (hall 12 (by decide)))
                    clear hR hall hr hs
                    have hk5 : ∀ b, b < wr.heap.size → ¬ inA (some ⟨stb, 0, none⟩) b → w5.heap[b]? = wr.heap[b]? := fun b hb hn => (hgrow5.block b (by simp; omega) (fun e => hn (own_in.1 e.symm))).trans (hal1.block b hb)
                    have hs5 : wr.heap.size ≤ w5.heap.size := by have := hgrow5.size; have := hal1.size; omega
                    have hset := OwnP.setWave (w5 := w5) HOE.out HVV.out (wb := wb) rfl (new := ⟨A5, k5, steps ++ [⟨yb, PA, pc, parts⟩]⟩) hs5 hk5 ⟨rfl, by rw [stCells_append, stCells_one, List.length_append]; exact hown5⟩ (fun b hb => by
                      rcases hat5 with h | h
                      · exact .inl (own_in.1 (h.symm.trans (own_in.2 hb)))
                      · right
                        have h2 := h.symm.trans (own_in.2 hb)
                        injection h2 with h2
                        simp at h2
                        omega) (fun s hs => by
                      rcases List.mem_append.1 hs with hs | hs
                      · exact HVW.out.parts s hs
                      · simp at hs
                        subst hs
                        exact HVW.out.parts ⟨blk, PA, pc, parts⟩ (List.mem_of_getElem? HSS.out))
                    have el : (steps ++ [(⟨yb, PA, pc, parts⟩ : StV)]).length = steps.length + 1 := by simp
                    simp only [el] at hset
                    have hall := HSM.out.2.2 _ (List.mem_of_getElem? HVV.out)
                    have HEV : Hid (∀ wf : World, (w5.setCell ⟨wb, ω, none⟩ (.slice A5 (steps.length + 1) k5)).heap.size ≤ wf.heap.size → (∀ b, pb + 3 ≤ b → wf.heap[b]? = (w5.setCell ⟨wb, ω, none⟩ (.slice A5 (steps.length + 1) k5)).heap[b]?) → ∃ q : PlV, PlOk wf wf.heap.size q ∧ q.cells = PlV.cells ⟨n, SA, sc, stash, (some ⟨wb, 0, none⟩), wq, waves⟩ ∧ Sml q (M + 1) 64) := Lib.hid (fun wf hs hk => by
                      obtain ⟨q, h1, h2, h3⟩ := hset.evid (M := M + 1) (set_all HBI.out.1 (fun s hs => by
                        rcases List.mem_append.1 hs with hs | hs
                        · exact HBI.out.1 _ (List.mem_of_getElem? HVV.out) s hs
                        · simp at hs
                          subst hs
                          exact HYB.out)) HBI.out.2.1 HBI.out.2.2 ⟨HSM.out.1, by simp only [List.length_set]; exact HSM.out.2.1, set_all (P := fun v => v.steps.length ≤ M + 1 ∧ ∀ s ∈ v.steps, s.parts.length ≤ 64) (fun v hv => ⟨Nat.le_trans (HSM.out.2.2 v hv).1 (by omega), (HSM.out.2.2 v hv).2⟩) ⟨by simp only [el]; have := hall.1; simp only at this; omega, fun s hs => by
                          rcases List.mem_append.1 hs with hs | hs
                          · exact hall.2 s hs
                          · simp at hs
                            subst hs
                            exact hall.2 ⟨blk, PA, pc, parts⟩ (List.mem_of_getElem? HSS.out)⟩⟩ wf hs hk
                      exact ⟨q, h1, by rw [h2]; simp only [PlV.cells, List.length_set], h3⟩)
                    have hsm9 : ∀ b, b < wr.heap.size → b ≠ wb → b ≠ stb → (w5.setCell ⟨wb, ω, none⟩ (.slice A5 (steps.length + 1) k5)).heap[b]? = wr.heap[b]? := fun b hb h1 h2 => (heap_setCell_other _ _ _ _ h1).trans (hk5 b hb (fun hin => h2 (inA_some.1 hin).symm))
                    have hbw5 : Below pb w w5 := (HZ.out.2.2.2.trans (hal1.mono (by omega))).grown hgrow5 (by simp; omega) (fun b hb => by have := inA_some.1 (own_in.1 hb); simp only at this; omega)
                    have HZ9 : Hid ((w5.setCell ⟨wb, ω, none⟩ (.slice A5 (steps.length + 1) k5)).heap[qb]? = some (.cells #[.int .i64 n, .slice SA stash.length sc, .slice (some ⟨wb, 0, none⟩) waves.length wq] 32 (0, 0)) ∧ (w5.setCell ⟨wb, ω, none⟩ (.slice A5 (steps.length + 1) k5)).heap[pb + 2]? = some (.cells #[.int .i64 0, .slice none 0 0, .slice none 0 0] 32 (0, 0)) ∧ (w5.setCell ⟨wb, ω, none⟩ (.slice A5 (steps.length + 1) k5)).heap[pb + 1]? = some (.cells #[.int .i64 4, .int .i64 wave, .int .i64 at_, .int .i64 by_] 62 (0, 0)) ∧ Below pb w (w5.setCell ⟨wb, ω, none⟩ (.slice A5 (steps.length + 1) k5))) := Lib.hid ⟨(hsm9 qb hqw hne3 hne1).trans HZ.out.1, (hsm9 (pb + 2) (by omega) (by omega) (by omega)).trans HZ.out.2.1, (hsm9 (pb + 1) (by omega) (by omega) (by omega)).trans HZ.out.2.2.1, hbw5.setCell (by simp only; omega) _⟩
                    clear hset hall hk5 hs5 hsm9 hbw5
                    clear HZ HTR hqw HOE
                    have HZ := HZ9
                    clear HZ9
                    generalize w5.setCell ⟨wb, ω, none⟩ (.slice A5 (steps.length + 1) k5) = wr at *
                    have c0 : wr.cell? ⟨qb, 0, none⟩ = some (.int .i64 n) := cell_of_row _ _ 0 _ 32 (0, 0) HZ.out.1
                    have c1 : wr.cell? ⟨qb, 1, none⟩ = some (.slice SA stash.length sc) := cell_of_row _ _ 1 _ 32 (0, 0) HZ.out.1
                    have c2 : wr.cell? ⟨qb, 2, none⟩ = some (.slice (some ⟨wb, 0, none⟩) waves.length wq) := cell_of_row _ _ 2 _ 32 (0, 0) HZ.out.1
                    have k0 : wr.cell? ⟨pb + 1, 0, none⟩ = some (.int .i64 4) := cell_of_row _ _ 0 _ 62 (0, 0) HZ.out.2.2.1
                    have p0 : wr.cell? ⟨pb + 2, 0, none⟩ = some (.int .i64 0) := cell_of_row _ _ 0 _ 32 (0, 0) HZ.out.2.1
                    have p1 : wr.cell? ⟨pb + 2, 1, none⟩ = some (.slice none 0 0) := cell_of_row _ _ 1 _ 32 (0, 0) HZ.out.2.1
                    have p2 : wr.cell? ⟨pb + 2, 2, none⟩ = some (.slice none 0 0) := cell_of_row _ _ 2 _ 32 (0, 0) HZ.out.2.1
                    have z0 : wr.frozen? ⟨pb + 2, 0, none⟩ = false := frozen_of_row _ _ 0 _ _ HZ.out.2.1
                    have z1 : wr.frozen? ⟨pb + 2, 1, none⟩ = false := frozen_of_row _ _ 1 _ _ HZ.out.2.1
                    have z2 : wr.frozen? ⟨pb + 2, 2, none⟩ = false := frozen_of_row _ _ 2 _ _ HZ.out.2.1
                    go_wp2_with fail
                    have hh := three_heap HZ.out.2.1 (.int .i64 n) (.slice SA stash.length sc) (.slice (some ⟨wb, 0, none⟩) waves.length wq)
                    have hsame : ∀ b, pb + 3 ≤ b → (((wr.setCell ⟨pb + 2, 0, none⟩ (.int .i64 n)).setCell ⟨pb + 2, 1, none⟩ (.slice SA stash.length sc)).setCell ⟨pb + 2, 2, none⟩ (.slice (some ⟨wb, 0, none⟩) waves.length wq)).heap[b]? = wr.heap[b]? := fun b hb => by
                      rw [heap_setCell_other _ _ _ _ (by simp only; omega), heap_setCell_other _ _ _ _ (by simp only; omega), heap_setCell_other _ _ _ _ (by simp only; omega)]
                    have hws : wr.heap.size ≤ (((wr.setCell ⟨pb + 2, 0, none⟩ (.int .i64 n)).setCell ⟨pb + 2, 1, none⟩ (.slice SA stash.length sc)).setCell ⟨pb + 2, 2, none⟩ (.slice (some ⟨wb, 0, none⟩) waves.length wq)).heap.size := by simp
                    have hbel : Below pb w (((wr.setCell ⟨pb + 2, 0, none⟩ (.int .i64 n)).setCell ⟨pb + 2, 1, none⟩ (.slice SA stash.length sc)).setCell ⟨pb + 2, 2, none⟩ (.slice (some ⟨wb, 0, none⟩) waves.length wq)) := ((HZ.out.2.2.2.setCell (p := ⟨pb + 2, 0, none⟩) (by simp) _).setCell (p := ⟨pb + 2, 1, none⟩) (by simp) _).setCell (p := ⟨pb + 2, 2, none⟩) (by simp) _
                    show bodyPost _ _ _ _ _ (((wr.setCell ⟨pb + 2, 0, none⟩ (.int .i64 n)).setCell ⟨pb + 2, 1, none⟩ (.slice SA stash.length sc)).setCell ⟨pb + 2, 2, none⟩ (.slice (some ⟨wb, 0, none⟩) waves.length wq))
                    obtain ⟨wf, hwf⟩ : ∃ wf, wf = (((wr.setCell ⟨pb + 2, 0, none⟩ (.int .i64 n)).setCell ⟨pb + 2, 1, none⟩ (.slice SA stash.length sc)).setCell ⟨pb + 2, 2, none⟩ (.slice (some ⟨wb, 0, none⟩) waves.length wq)) := ⟨_, rfl⟩
                    rw [← hwf] at hh hsame hws hbel
                    rw [← hwf]
                    clear hwf
                    have e0 : wf.cell? ⟨pb + 2, 0, none⟩ = some (.int .i64 n) := cell_of_row _ _ 0 _ 32 (0, 0) hh
                    have e1 : wf.cell? ⟨pb + 2, 1, none⟩ = some (.slice SA stash.length sc) := cell_of_row _ _ 1 _ 32 (0, 0) hh
                    have e2 : wf.cell? ⟨pb + 2, 2, none⟩ = some (.slice (some ⟨wb, 0, none⟩) waves.length wq) := cell_of_row _ _ 2 _ 32 (0, 0) hh
                    refine bodyPost_ret (v := .agg #[.int .i64 n, .slice SA stash.length sc, .slice (some ⟨wb, 0, none⟩) waves.length wq]) (by simp [results, Try.results31, go_sem, e0, e1, e2]) rfl ?_
                    obtain rfl := HPB.out
                    exact ⟨⟨⟨n, SA, sc, stash, (some ⟨wb, 0, none⟩), wq, waves⟩, rfl, fun wf2 hs hk => HEV.out wf2 (by omega) (fun b hb => (hk b (by omega)).trans (hsame b hb))⟩, hbel⟩
                  case step =>
                    intro L a w' i hs hcl hinv hr
                    obtain ⟨T, rfl, hR⟩ := hinv
                    have hlt := ready_lt hr
                    have hn : ¬ Up L i := by unfold Up; rw [ready_not hs hr]; decide
                    replace hlt : i < 13 := hlt
                    replace hs : L.size = 13 := hs
                    have hi' : i < L.size := by omega
                    rcases (show i = 0 ∨ i = 1 ∨ i = 2 ∨ i = 3 ∨ i = 4 ∨ i = 5 ∨ i = 6 ∨ i = 7 ∨ i = 8 ∨ i = 9 ∨ i = 10 ∨ i = 11 ∨ i = 12 by omega) with rfl | rfl | rfl | rfl | rfl | rfl | rfl | rfl | rfl | rfl | rfl | rfl | rfl
                    · refine wpOp_step rfl (fun K hK => ?_)
                      have HK := Lib.hid hK
                      have HR := Lib.hid hR
                      clear hK hR hr hcl
                      go_simp
                      exact HK.out _ _ ⟨put_ T 0 (.pointer (some ⟨qb, 2, none⟩)), by simp [put_], HR.out.same 0 _ hi' (by simp) rfl⟩
                    · have d0 := ready_dep hr 0 (by kernel_rfl)
                      have e0 : T 0 = .pointer (some ⟨qb, 2, none⟩) := hR.val 0 (by decide) d0
                      have hz : ¬ Up L 12 := fun x => hn (hcl 12 1 x (by kernel_rfl))
                      have cqf : w'.cell? ⟨qb, 2, none⟩ = some (.slice (some ⟨wb, 0, none⟩) waves.length wq) := hR.fact (fun W => W.cell? ⟨qb, 2, none⟩ = some (.slice (some ⟨wb, 0, none⟩) waves.length wq)) cq0 (by simp only [List.mem_cons, List.not_mem_nil, or_false]; rintro x (rfl | rfl | rfl) hx <;> first | exact absurd hx hz | exact cq2 | exact cq1)
                      clear hz
                      refine wpOp_step rfl (fun K hK => ?_)
                      have HK := Lib.hid hK
                      have HR := Lib.hid hR
                      clear hK hR hr hcl d0
                      go_simp
                      exact HK.out _ _ ⟨put_ T 1 (.slice (some ⟨wb, 0, none⟩) waves.length wq), by simp [put_, e0], HR.out.same 1 _ hi' (by simp) rfl⟩
                    · refine wpOp_step rfl (fun K hK => ?_)
                      have HK := Lib.hid hK
                      have HR := Lib.hid hR
                      clear hK hR hr hcl
                      go_simp
                      exact HK.out _ _ ⟨put_ T 2 (.int .i64 (ω : Int)), by simp [put_], HR.out.same 2 _ hi' (by simp) rfl⟩
                    · refine wpOp_step rfl (fun K hK => ?_)
                      have HK := Lib.hid hK
                      have HR := Lib.hid hR
                      clear hK hR hr hcl
                      go_simp
                      exact HK.out _ _ ⟨put_ T 3 (.pointer (some ⟨qb, 2, none⟩)), by simp [put_], HR.out.same 3 _ hi' (by simp) rfl⟩
                    · have d3 := ready_dep hr 3 (by kernel_rfl)
                      have e3 : T 3 = .pointer (some ⟨qb, 2, none⟩) := hR.val 3 (by decide) d3
                      have hz : ¬ Up L 12 := fun x => hn (hcl 12 4 x (by kernel_rfl))
                      have cqf : w'.cell? ⟨qb, 2, none⟩ = some (.slice (some ⟨wb, 0, none⟩) waves.length wq) := hR.fact (fun W => W.cell? ⟨qb, 2, none⟩ = some (.slice (some ⟨wb, 0, none⟩) waves.length wq)) cq0 (by simp only [List.mem_cons, List.not_mem_nil, or_false]; rintro x (rfl | rfl | rfl) hx <;> first | exact absurd hx hz | exact cq2 | exact cq1)
                      clear hz
                      refine wpOp_step rfl (fun K hK => ?_)
                      have HK := Lib.hid hK
                      have HR := Lib.hid hR
                      clear hK hR hr hcl d3
                      go_simp
                      exact HK.out _ _ ⟨put_ T 4 (.slice (some ⟨wb, 0, none⟩) waves.length wq), by simp [put_, e3], HR.out.same 4 _ hi' (by simp) rfl⟩
                    · refine wpOp_step rfl (fun K hK => ?_)
                      have HK := Lib.hid hK
                      have HR := Lib.hid hR
                      clear hK hR hr hcl
                      go_simp
                      exact HK.out _ _ ⟨put_ T 5 (.int .i64 (ω : Int)), by simp [put_], HR.out.same 5 _ hi' (by simp) rfl⟩
                    · have d4 := ready_dep hr 4 (by kernel_rfl)
                      have e4 : T 4 = .slice (some ⟨wb, 0, none⟩) waves.length wq := hR.val 4 (by decide) d4
                      have d5 := ready_dep hr 5 (by kernel_rfl)
                      have e5 : T 5 = .int .i64 (ω : Int) := hR.val 5 (by decide) d5
                      refine wpOp_step rfl (fun K hK => ?_)
                      have HK := Lib.hid hK
                      have HR := Lib.hid hR
                      clear hK hR hr hcl d4 d5
                      go_simp
                      exact HK.out _ _ ⟨put_ T 6 (.pointer (some ⟨wb, ω, none⟩)), by simp [put_, e4, e5], HR.out.same 6 _ hi' (by simp) rfl⟩
                    · have d6 := ready_dep hr 6 (by kernel_rfl)
                      have e6 : T 6 = .pointer (some ⟨wb, ω, none⟩) := hR.val 6 (by decide) d6
                      have hz : ¬ Up L 12 := fun x => hn (hcl 12 7 x (by kernel_rfl))
                      have cvf : w'.cell? ⟨wb, ω, none⟩ = some (.slice (some ⟨stb, 0, none⟩) steps.length vc) := hR.fact (fun W => W.cell? ⟨wb, ω, none⟩ = some (.slice (some ⟨stb, 0, none⟩) steps.length vc)) cv0 (by simp only [List.mem_cons, List.not_mem_nil, or_false]; rintro x (rfl | rfl | rfl) hx <;> first | exact absurd hx hz | exact cv2 | exact cv1)
                      clear hz
                      refine wpOp_step rfl (fun K hK => ?_)
                      have HK := Lib.hid hK
                      have HR := Lib.hid hR
                      clear hK hR hr hcl d6
                      go_simp
                      exact HK.out _ _ ⟨put_ T 7 (.slice (some ⟨stb, 0, none⟩) steps.length vc), by simp [put_, e6], HR.out.same 7 _ hi' (by simp) rfl⟩
                    · have hz : ¬ Up L 12 := fun x => hn (hcl 12 8 x (by kernel_rfl))
                      have cuf : w'.cell? ⟨vs, 0, none⟩ = some (.int .i64 yb) := hR.fact (fun W => W.cell? ⟨vs, 0, none⟩ = some (.int .i64 yb)) cu0 (by simp only [List.mem_cons, List.not_mem_nil, or_false]; rintro x (rfl | rfl | rfl) hx <;> first | exact absurd hx hz | exact cu2 | exact cu1)
                      have cwf : w'.cell? ⟨vs, 1, none⟩ = some (.slice PA parts.length pc) := hR.fact (fun W => W.cell? ⟨vs, 1, none⟩ = some (.slice PA parts.length pc)) cw0 (by simp only [List.mem_cons, List.not_mem_nil, or_false]; rintro x (rfl | rfl | rfl) hx <;> first | exact absurd hx hz | exact cw2 | exact cw1)
                      clear hz
                      refine wpOp_step rfl (fun K hK => ?_)
                      have HK := Lib.hid hK
                      have HR := Lib.hid hR
                      clear hK hR hr hcl
                      go_simp
                      exact HK.out _ _ ⟨put_ T 8 (.agg #[.int .i64 yb, .slice PA parts.length pc]), by simp [put_], HR.out.same 8 _ hi' (by simp) rfl⟩
                    · have d8 := ready_dep hr 8 (by kernel_rfl)
                      have e8 : T 8 = .agg #[.int .i64 yb, .slice PA parts.length pc] := hR.val 8 (by decide) d8
                      have hz : ¬ Up L 12 := fun x => hn (hcl 12 9 x (by kernel_rfl))
                      have hz1 : ¬ Up L 10 := fun x => hn (hcl 10 9 x (by kernel_rfl))
                      obtain rfl := hR.first (later := [(12, (w5.setCell ⟨wb, ω, none⟩ (.slice A5 (steps.length + 1) k5))), (10, w5)]) (by simp; exact ⟨hz, hz1⟩) hn
                      refine wpOp_step rfl (fun K hK => ?_)
                      have HK := Lib.hid hK
                      have HR := Lib.hid hR
                      clear hK hR hr hcl d8
                      go_simp
                      exact HK.out _ _ ⟨put_ T 9 (.slice (some ⟨wr.heap.size, 0, none⟩) 1 1), by simp [put_, e8], DW.step (later := [(12, (w5.setCell ⟨wb, ω, none⟩ (.slice A5 (steps.length + 1) k5))), (10, w5)]) HR.out _ hi' (by simp; exact ⟨hz, hz1⟩) (fun _ => rfl)⟩
                    · have d7 := ready_dep hr 7 (by kernel_rfl)
                      have e7 : T 7 = .slice (some ⟨stb, 0, none⟩) steps.length vc := hR.val 7 (by decide) d7
                      have d9 := ready_dep hr 9 (by kernel_rfl)
                      have e9 : T 9 = .slice (some ⟨wr.heap.size, 0, none⟩) 1 1 := hR.val 9 (by decide) d9
                      have hz : ¬ Up L 12 := fun x => hn (hcl 12 10 x (by kernel_rfl))
                      obtain rfl := hR.ahead (later := [(12, (w5.setCell ⟨wb, ω, none⟩ (.slice A5 (steps.length + 1) k5)))]) (by simp; exact hz) hn d9
                      refine wpOp_step rfl (fun K hK => ?_)
                      have HK := Lib.hid hK
                      have HR := Lib.hid hR
                      clear hK hR hr hcl d7 d9
                      have hrn : (Builtin.append_ #[43, 43] 43 #[.slice (some ⟨stb, 0, none⟩) steps.length vc, .slice (some ⟨wr.heap.size, 0, none⟩) 1 1]).run Try.prog (wr.drew.alloc (.cells #[.int .i64 yb, .slice PA parts.length pc] 70)) = .ok (.slice A5 (steps.length + 1) k5) w5 := hrun
                      refine step_append_told (by rfl) (.tmp 188) (.tmp 190) 43 (by rfl) _ _ _ (show T 7 = _ from e7) (show T 9 = _ from e9) hrn ?_
                      exact HK.out _ _ ⟨put_ T 10 (.slice A5 (steps.length + 1) k5), by simp [put_, Act.put, e7, e9], DW.step (later := [(12, (w5.setCell ⟨wb, ω, none⟩ (.slice A5 (steps.length + 1) k5)))]) HR.out _ hi' (by simp; exact hz) (fun _ => rfl)⟩
                    · have d1 := ready_dep hr 1 (by kernel_rfl)
                      have e1 : T 1 = .slice (some ⟨wb, 0, none⟩) waves.length wq := hR.val 1 (by decide) d1
                      have d2 := ready_dep hr 2 (by kernel_rfl)
                      have e2 : T 2 = .int .i64 (ω : Int) := hR.val 2 (by decide) d2
                      refine wpOp_step rfl (fun K hK => ?_)
                      have HK := Lib.hid hK
                      have HR := Lib.hid hR
                      clear hK hR hr hcl d1 d2
                      go_simp
                      exact HK.out _ _ ⟨put_ T 11 (.pointer (some ⟨wb, ω, none⟩)), by simp [put_, e1, e2], HR.out.same 11 _ hi' (by simp) rfl⟩
                    · have d10 := ready_dep hr 10 (by kernel_rfl)
                      have e10 : T 10 = .slice A5 (steps.length + 1) k5 := hR.val 10 (by decide) d10
                      have d11 := ready_dep hr 11 (by kernel_rfl)
                      have e11 : T 11 = .pointer (some ⟨wb, ω, none⟩) := hR.val 11 (by decide) d11
                      obtain rfl := hR.ahead (later := []) (by simp) hn d10
                      have f0 := cv2
                      have f1 := zv2
                      refine wpOp_step rfl (fun K hK => ?_)
                      have HK := Lib.hid hK
                      have HR := Lib.hid hR
                      clear hK hR hr hcl d10 d11
                      go_simp
                      exact HK.out _ _ ⟨put_ T 12 undef, by simp [put_, e10, e11], DW.step (later := []) HR.out _ hi' (by simp) (fun h => absurd h (by decide))⟩
                · have f0 : (how == 0) = false := by simpa using e0
                  have f1 : (how == 1) = false := by simpa using e1
                  have f2 : (how == 2) = false := by simpa using e2
                  have f3 : (how == 3) = false := by simpa using e3
                  have f4 : (how == 4) = false := by simpa using e4
                  have HEV : Hid (∀ wf : World, wr.heap.size ≤ wf.heap.size → (∀ b, pb + 3 ≤ b → wf.heap[b]? = wr.heap[b]?) → ∃ q : PlV, PlOk wf wf.heap.size q ∧ q.cells = PlV.cells ⟨n, SA, sc, stash, (some ⟨wb, 0, none⟩), wq, waves⟩ ∧ Sml q (M + 1) 64) := Lib.hid (fun wf hs hk => by
                    obtain ⟨q, h1, h2, h3⟩ := HO5.out.turned (HTR.out.trans (Trn.box hs hk)) HBI.out.1 HBI.out.2.1 HBI.out.2.2
                    exact ⟨q, h1, h2, (h3 _ _ HSM.out).more (by omega)⟩)
                  have c0 : wr.cell? ⟨qb, 0, none⟩ = some (.int .i64 n) := cell_of_row _ _ 0 _ 32 (0, 0) HZ.out.1
                  have c1 : wr.cell? ⟨qb, 1, none⟩ = some (.slice SA stash.length sc) := cell_of_row _ _ 1 _ 32 (0, 0) HZ.out.1
                  have c2 : wr.cell? ⟨qb, 2, none⟩ = some (.slice (some ⟨wb, 0, none⟩) waves.length wq) := cell_of_row _ _ 2 _ 32 (0, 0) HZ.out.1
                  have k0 : wr.cell? ⟨pb + 1, 0, none⟩ = some (.int .i64 how) := cell_of_row _ _ 0 _ 62 (0, 0) HZ.out.2.2.1
                  have p0 : wr.cell? ⟨pb + 2, 0, none⟩ = some (.int .i64 0) := cell_of_row _ _ 0 _ 32 (0, 0) HZ.out.2.1
                  have p1 : wr.cell? ⟨pb + 2, 1, none⟩ = some (.slice none 0 0) := cell_of_row _ _ 1 _ 32 (0, 0) HZ.out.2.1
                  have p2 : wr.cell? ⟨pb + 2, 2, none⟩ = some (.slice none 0 0) := cell_of_row _ _ 2 _ 32 (0, 0) HZ.out.2.1
                  have z0 : wr.frozen? ⟨pb + 2, 0, none⟩ = false := frozen_of_row _ _ 0 _ _ HZ.out.2.1
                  have z1 : wr.frozen? ⟨pb + 2, 1, none⟩ = false := frozen_of_row _ _ 1 _ _ HZ.out.2.1
                  have z2 : wr.frozen? ⟨pb + 2, 2, none⟩ = false := frozen_of_row _ _ 2 _ _ HZ.out.2.1
                  go_wp2_with fail
                  have hh := three_heap HZ.out.2.1 (.int .i64 n) (.slice SA stash.length sc) (.slice (some ⟨wb, 0, none⟩) waves.length wq)
                  have hsame : ∀ b, pb + 3 ≤ b → (((wr.setCell ⟨pb + 2, 0, none⟩ (.int .i64 n)).setCell ⟨pb + 2, 1, none⟩ (.slice SA stash.length sc)).setCell ⟨pb + 2, 2, none⟩ (.slice (some ⟨wb, 0, none⟩) waves.length wq)).heap[b]? = wr.heap[b]? := fun b hb => by
                    rw [heap_setCell_other _ _ _ _ (by simp only; omega), heap_setCell_other _ _ _ _ (by simp only; omega), heap_setCell_other _ _ _ _ (by simp only; omega)]
                  have hws : wr.heap.size ≤ (((wr.setCell ⟨pb + 2, 0, none⟩ (.int .i64 n)).setCell ⟨pb + 2, 1, none⟩ (.slice SA stash.length sc)).setCell ⟨pb + 2, 2, none⟩ (.slice (some ⟨wb, 0, none⟩) waves.length wq)).heap.size := by simp
                  have hbel : Below pb w (((wr.setCell ⟨pb + 2, 0, none⟩ (.int .i64 n)).setCell ⟨pb + 2, 1, none⟩ (.slice SA stash.length sc)).setCell ⟨pb + 2, 2, none⟩ (.slice (some ⟨wb, 0, none⟩) waves.length wq)) := ((HZ.out.2.2.2.setCell (p := ⟨pb + 2, 0, none⟩) (by simp) _).setCell (p := ⟨pb + 2, 1, none⟩) (by simp) _).setCell (p := ⟨pb + 2, 2, none⟩) (by simp) _
                  show bodyPost _ _ _ _ _ (((wr.setCell ⟨pb + 2, 0, none⟩ (.int .i64 n)).setCell ⟨pb + 2, 1, none⟩ (.slice SA stash.length sc)).setCell ⟨pb + 2, 2, none⟩ (.slice (some ⟨wb, 0, none⟩) waves.length wq))
                  obtain ⟨wf, hwf⟩ : ∃ wf, wf = (((wr.setCell ⟨pb + 2, 0, none⟩ (.int .i64 n)).setCell ⟨pb + 2, 1, none⟩ (.slice SA stash.length sc)).setCell ⟨pb + 2, 2, none⟩ (.slice (some ⟨wb, 0, none⟩) waves.length wq)) := ⟨_, rfl⟩
                  rw [← hwf] at hh hsame hws hbel
                  rw [← hwf]
                  clear hwf
                  have e0 : wf.cell? ⟨pb + 2, 0, none⟩ = some (.int .i64 n) := cell_of_row _ _ 0 _ 32 (0, 0) hh
                  have e1 : wf.cell? ⟨pb + 2, 1, none⟩ = some (.slice SA stash.length sc) := cell_of_row _ _ 1 _ 32 (0, 0) hh
                  have e2 : wf.cell? ⟨pb + 2, 2, none⟩ = some (.slice (some ⟨wb, 0, none⟩) waves.length wq) := cell_of_row _ _ 2 _ 32 (0, 0) hh
                  refine bodyPost_ret (v := .agg #[.int .i64 n, .slice SA stash.length sc, .slice (some ⟨wb, 0, none⟩) waves.length wq]) (by simp [results, Try.results31, go_sem, e0, e1, e2]) rfl ?_
                  obtain rfl := HPB.out
                  exact ⟨⟨⟨n, SA, sc, stash, (some ⟨wb, 0, none⟩), wq, waves⟩, rfl, fun wf2 hs hk => HEV.out wf2 (by omega) (fun b hb => (hk b (by omega)).trans (hsame b hb))⟩, hbel⟩
end Go.Proofs.Yteceephenfmdoaa
