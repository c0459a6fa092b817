/-
  That octavoref20.Same is true of two plans that read as one.
-/
import Derived.Test.YtblibmalommdkaaGreatMD
import Derived.Test.YtblibmalommdkaaGreatMB
import Derived.Test.YtblibmalommdkaaGreatSF
namespace Go.Proofs.YtblibmalommdkaaGreat
open Go.RowKit
theorem st_at {W V : List WvV} (h : W.map WvV.wv = V.map WvV.wv) {x : Nat} {v u : WvV} (hv : W[x]? = some v) (hu : V[x]? = some u) : v.steps.map StV.st = u.steps.map StV.st := by
  have h1 : (W.map WvV.wv)[x]? = some v.wv := by rw [List.getElem?_map, hv]; rfl
  have h2 : (V.map WvV.wv)[x]? = some u.wv := by rw [List.getElem?_map, hu]; rfl
  rw [h, h2] at h1
  exact (Option.some.inj h1).symm
theorem st_at2 {W V : List StV} (h : W.map StV.st = V.map StV.st) {x : Nat} {v u : StV} (hv : W[x]? = some v) (hu : V[x]? = some u) : v.blk = u.blk ∧ v.parts = u.parts := by
  have h1 : (W.map StV.st)[x]? = some v.st := by rw [List.getElem?_map, hv]; rfl
  have h2 : (V.map StV.st)[x]? = some u.st := by rw [List.getElem?_map, hu]; rfl
  rw [h, h2] at h1
  have := Option.some.inj h1
  simp only [StV.st, Prod.mk.injEq] at this
  exact ⟨this.1.symm, this.2.symm⟩
set_option maxRecDepth 100000 in
set_option maxHeartbeats 4000000 in
theorem Same_plans (p q : PlV) (w : World) (hP : PlOk w w.heap.size p) (hQ : PlOk w w.heap.size q) (h : p.pln = q.pln) :
    Calls Tryz.prog 31 #[.agg p.cells, .agg q.cells] w fun e w' => e = .returned (.bool true) ∧ Below w.heap.size w w' := by
  obtain ⟨n, SA, sc, stash, WA, wq, waves⟩ := p
  obtain ⟨n2, SA2, sc2, stash2, WA2, wq2, waves2⟩ := q
  simp only [PlV.pln, Pln.mk.injEq] at h
  obtain ⟨rfl, rfl, hwv⟩ := h
  unfold PlV.cells at *
  simp only at *
  have hlw : waves.length = waves2.length := by have := congrArg List.length hwv; simpa using this
  have HWV := Lib.hid hwv
  have HP := Lib.hid hP
  have HQ := Lib.hid hQ
  have hwl : waves2.length ≤ 9223372036854775807 := Nat.le_trans hQ.wcap.1 hQ.wcap.2
  have hsl : stash.length ≤ 9223372036854775807 := Nat.le_trans hQ.scap.1 hQ.scap.2
  have HLW := Lib.hid hlw
  rw [hlw]
  clear hP hQ hwv hlw
  have hb1 : Below w.heap.size w (w.alloc (.cells #[.int .i64 n, .slice SA stash.length sc, .slice WA waves2.length wq] 30)) := (Below.refl _ _).alloc (Nat.le_refl _) _
  have hb2 : Below w.heap.size w ((w.alloc (.cells #[.int .i64 n, .slice SA stash.length sc, .slice WA waves2.length wq] 30)).alloc (.cells #[.int .i64 n, .slice SA2 stash.length sc2, .slice WA2 waves2.length wq2] 30)) := hb1.alloc (by simp) _
  have e1 : (w.alloc (.cells #[.int .i64 n, .slice SA stash.length sc, .slice WA waves2.length wq] 30)).heap.size = w.heap.size + 1 := by simp
  have e2 : ((w.alloc (.cells #[.int .i64 n, .slice SA stash.length sc, .slice WA waves2.length wq] 30)).alloc (.cells #[.int .i64 n, .slice SA2 stash.length sc2, .slice WA2 waves2.length wq2] 30)).heap.size = w.heap.size + 2 := by simp
  have a0 : ∀ j, ((w.alloc (.cells #[.int .i64 n, .slice SA stash.length sc, .slice WA waves2.length wq] 30)).alloc (.cells #[.int .i64 n, .slice SA2 stash.length sc2, .slice WA2 waves2.length wq2] 30)).cell? ⟨w.heap.size, j, none⟩ = #[Value.int .i64 n, .slice SA stash.length sc, .slice WA waves2.length wq][j]? := fun j => Sc.cell_new1 w _ 30 _ j
  have a1 : ∀ j, ((w.alloc (.cells #[.int .i64 n, .slice SA stash.length sc, .slice WA waves2.length wq] 30)).alloc (.cells #[.int .i64 n, .slice SA2 stash.length sc2, .slice WA2 waves2.length wq2] 30)).cell? ⟨w.heap.size + 1, j, none⟩ = #[Value.int .i64 n, .slice SA2 stash.length sc2, .slice WA2 waves2.length wq2][j]? := fun j => by
    rw [← e1]; exact cell_new _ _ 30 j
  have HB := Lib.hid hb2
  have HE2 := Lib.hid e2
  have A0 := Lib.hid (And.intro (a0 0) (And.intro (a0 1) (a0 2)))
  have A1 := Lib.hid (And.intro (a1 0) (And.intro (a1 1) (a1 2)))
  simp only [List.getElem?_toArray, List.getElem?_cons_zero, List.getElem?_cons_succ] at A0 A1
  clear hb1 hb2 e1 e2 a0 a1
  go_enter Tryz.func31, Tryz.ntmps31
  go_wp2_with fail
  generalize (w.alloc (.cells #[.int .i64 n, .slice SA stash.length sc, .slice WA waves2.length wq] 30)).alloc (.cells #[.int .i64 n, .slice SA2 stash.length sc2, .slice WA2 waves2.length wq2] 30) = W1 at *
  have HPW : Hid (PlOk W1 w.heap.size ⟨n, SA, sc, stash, WA, wq, waves⟩) := Lib.hid (HP.out.below HB.out (Nat.le_refl _))
  have HQW : Hid (PlOk W1 w.heap.size ⟨n, SA2, sc2, stash, WA2, wq2, waves2⟩) := Lib.hid (HQ.out.below HB.out (Nat.le_refl _))
  have hsz1 : w.heap.size + 2 = W1.heap.size := HE2.out.symm
  refine (Same_any SA _ sc SA2 _ sc2 W1 stash stash rfl (HPW.out.st.more (by omega)) hsl rfl (HQW.out.st.more (by omega)) hsl).mono ?_
  rw [decide_eq_true rfl]
  rintro e w2 ⟨rfl, hb2⟩
  have HB2 := Lib.hid (HB.out.trans (hb2.mono (by omega)))
  have B0 : w2.cell? ⟨w.heap.size, 2, none⟩ = some (.slice WA waves2.length wq) := (hb2.cell (by simp only; omega)).trans A0.out.2.2
  have B1 : w2.cell? ⟨w.heap.size + 1, 2, none⟩ = some (.slice WA2 waves2.length wq2) := (hb2.cell (by simp only; omega)).trans A1.out.2.2
  have HS2 : Hid (w.heap.size + 2 ≤ w2.heap.size) := Lib.hid (by have := hb2.size; omega)
  clear hb2 HPW HQW hsz1 A0 A1 HB HE2
  generalize hpb : w.heap.size = pb at *
  have HPB := Lib.hid hpb
  clear hpb
  go_wp2_with fail
  go_loopw [5] (fun i wx => ∃ k : Nat, k ≤ waves2.length ∧ i = .int .i64 k ∧ Hid (Below pb w wx) ∧ wx.cell? ⟨pb, 2, none⟩ = some (.slice WA waves2.length wq) ∧ wx.cell? ⟨pb + 1, 2, none⟩ = some (.slice WA2 waves2.length wq2)) (fun i _ => waves2.length - (intOf i).toNat)
  case atStart => exact ⟨0, Nat.zero_le _, rfl, HB2, B0, B1⟩
  case round =>
    clear HB2 B0 B1 HS2
    obtain ⟨k, hk, rfl, HI, b0, b1⟩ := hrel
    by_cases hlt : k < waves2.length
    · obtain ⟨v, hv⟩ := Sc.get_some waves k (by have := HLW.out; omega)
      obtain ⟨u, hu⟩ := Sc.get_some waves2 k hlt
      obtain ⟨vb, voff, rfl, hvb, v0, hvo⟩ := (HP.out.wv.below HI.out (by omega)) k v hv
      obtain ⟨ub, uoff, rfl, hub, u0, huo⟩ := (HQ.out.wv.below HI.out (by omega)) k u hu
      have hst := st_at HWV.out hv hu
      obtain ⟨VA, vc, steps⟩ := v
      obtain ⟨UA, uc, steps2⟩ := u
      simp only at v0 u0 hst
      have hll : steps.length = steps2.length := by have := congrArg List.length hst; simpa using this
      have HST := Lib.hid hst
      have HVO := Lib.hid hvo
      have HUO := Lib.hid huo
      have hsl2 : steps2.length ≤ 9223372036854775807 := Nat.le_trans huo.cap.1 huo.cap.2
      rw [hll] at v0
      have HLL := Lib.hid hll
      clear hv hu hst hvo huo hll
      go_wp2_with fail
      go_quiet (fail)
      have HI2 : Hid (Below pb w (wr.drewN nq)) := Lib.hid (belowDrewN HI.out nq)
      have b0' : (wr.drewN nq).cell? ⟨pb, 2, none⟩ = some (.slice (some ⟨vb, voff, none⟩) waves2.length wq) := b0
      have b1' : (wr.drewN nq).cell? ⟨pb + 1, 2, none⟩ = some (.slice (some ⟨ub, uoff, none⟩) waves2.length wq2) := b1
      have v0' : (wr.drewN nq).cell? ⟨vb, voff + k, none⟩ = some (.slice VA steps2.length vc) := v0
      have u0' : (wr.drewN nq).cell? ⟨ub, uoff + k, none⟩ = some (.slice UA steps2.length uc) := u0
      have HVO2 : Hid (WvOk (wr.drewN nq) pb ⟨VA, vc, steps⟩) := Lib.hid (HVO.out.keep fun _ _ => rfl)
      have HUO2 : Hid (WvOk (wr.drewN nq) pb ⟨UA, uc, steps2⟩) := Lib.hid (HUO.out.keep fun _ _ => rfl)
      clear b0 b1 v0 u0 HVO HUO HI
      go_wp2_with fail
      generalize wr.drewN nq = W3 at *
      go_loopw [6] (fun i wx => ∃ j : Nat, j ≤ steps2.length ∧ i = .int .i64 j ∧ Hid (Below W3.heap.size W3 wx)) (fun i _ => steps2.length - (intOf i).toNat)
      case atStart => exact ⟨0, Nat.zero_le _, rfl, Lib.hid (Below.refl _ _)⟩
      case round =>
        obtain ⟨j, hj, rfl, HJ⟩ := hrel
        by_cases hlj : j < steps2.length
        · obtain ⟨x, hx⟩ := Sc.get_some steps j (by have := HLL.out; omega)
          obtain ⟨y, hy⟩ := Sc.get_some steps2 j hlj
          obtain ⟨xb, xoff, rfl, hxb, x0, x1, hxo⟩ := HVO2.out.rd j x hx
          obtain ⟨yb, yoff, rfl, hyb, y0, y1, hyo⟩ := HUO2.out.rd j y hy
          obtain ⟨e1, e2⟩ := st_at2 HST.out hx hy
          obtain ⟨blk, XA, xc, parts⟩ := x
          obtain ⟨blk2, YA, yc, parts2⟩ := y
          simp only at e1 e2 x0 x1 y0 y1
          subst e1; subst e2
          have HXO := Lib.hid hxo
          have HYO := Lib.hid hyo
          have hpl : parts.length ≤ 9223372036854775807 := Nat.le_trans hxo.cap.1 hxo.cap.2
          have HZ : Hid (Below W3.heap.size W3 wr) := HJ
          have l0 : wr.cell? ⟨pb, 2, none⟩ = some (.slice (some ⟨vb, voff, none⟩) waves2.length wq) := (HJ.out.cell (World.block_lt_of_cell? _ _ b0')).trans b0'
          have l1 : wr.cell? ⟨pb + 1, 2, none⟩ = some (.slice (some ⟨ub, uoff, none⟩) waves2.length wq2) := (HJ.out.cell (World.block_lt_of_cell? _ _ b1')).trans b1'
          have l2 : wr.cell? ⟨vb, voff + k, none⟩ = some (.slice (some ⟨xb, xoff, none⟩) steps2.length vc) := (HJ.out.cell (World.block_lt_of_cell? _ _ v0')).trans v0'
          have l3 : wr.cell? ⟨ub, uoff + k, none⟩ = some (.slice (some ⟨yb, yoff, none⟩) steps2.length uc) := (HJ.out.cell (World.block_lt_of_cell? _ _ u0')).trans u0'
          have l4 : wr.cell? ⟨xb, xoff + j * 2, none⟩ = some (.int .i64 blk) := (HJ.out.cell (World.block_lt_of_cell? _ _ x0)).trans x0
          have l5 : wr.cell? ⟨xb, xoff + j * 2 + 1, none⟩ = some (.slice XA parts.length xc) := (HJ.out.cell (World.block_lt_of_cell? _ _ x1)).trans x1
          have l6 : wr.cell? ⟨yb, yoff + j * 2, none⟩ = some (.int .i64 blk) := (HJ.out.cell (World.block_lt_of_cell? _ _ y0)).trans y0
          have l7 : wr.cell? ⟨yb, yoff + j * 2 + 1, none⟩ = some (.slice YA parts.length yc) := (HJ.out.cell (World.block_lt_of_cell? _ _ y1)).trans y1
          clear hx hy hxo hyo x0 x1 y0 y1 b0' b1' v0' u0'
          go_upto_region 11 with (fail)
          have q0 : ∀ q : Qs wr, q.1.cell? ⟨pb, 2, none⟩ = some (.slice (some ⟨vb, voff, none⟩) waves2.length wq) := fun q => q.cell l0
          have q1 : ∀ q : Qs wr, q.1.cell? ⟨pb + 1, 2, none⟩ = some (.slice (some ⟨ub, uoff, none⟩) waves2.length wq2) := fun q => q.cell l1
          have q2 : ∀ q : Qs wr, q.1.cell? ⟨vb, voff + k, none⟩ = some (.slice (some ⟨xb, xoff, none⟩) steps2.length vc) := fun q => q.cell l2
          have q3 : ∀ q : Qs wr, q.1.cell? ⟨ub, uoff + k, none⟩ = some (.slice (some ⟨yb, yoff, none⟩) steps2.length uc) := fun q => q.cell l3
          have q4 : ∀ q : Qs wr, q.1.cell? ⟨xb, xoff + j * 2, none⟩ = some (.int .i64 blk) := fun q => q.cell l4
          have q5 : ∀ q : Qs wr, q.1.cell? ⟨xb, xoff + j * 2 + 1, none⟩ = some (.slice XA parts.length xc) := fun q => q.cell l5
          have q6 : ∀ q : Qs wr, q.1.cell? ⟨yb, yoff + j * 2, none⟩ = some (.int .i64 blk) := fun q => q.cell l6
          have q7 : ∀ q : Qs wr, q.1.cell? ⟨yb, yoff + j * 2 + 1, none⟩ = some (.slice YA parts.length yc) := fun q => q.cell l7
          have HW3 : Hid (pb ≤ W3.heap.size) := Lib.hid (by have := HI2.out.size; have := HPB.out; omega)
          have hRx : ∀ q : Qs wr, Calls Tryz.prog 53 #[.slice XA parts.length xc, .slice YA parts.length yc] q.1 fun e w'' => e = .returned (.bool true) ∧ ∃ q' : Qs wr, w'' = q'.1 := fun q => q.calls (Sc.Same_true XA _ xc YA _ yc q.1 parts rfl (((HXO.out.rd.more HW3.out).below HJ.out (Nat.le_refl _)).more HJ.out.size |>.below q.2 (Nat.le_refl _) |>.more q.2.size) hpl rfl (((HYO.out.rd.more HW3.out).below HJ.out (Nat.le_refl _)).more HJ.out.size |>.below q.2 (Nat.le_refl _) |>.more q.2.size))
          clear l0 l1 l2 l3 l4 l5 l6 l7
          refine wp_region_below (by kernel_rfl) (by kernel_rfl) ?_
          repeat (go_big_quiet_step (first | exact hRx _))
          refine wpQuiet_nil ?_
          rintro _ ⟨q, rfl⟩
          have HQJ : Hid (Below W3.heap.size W3 q.1) := Lib.hid (HJ.out.trans (q.2.mono HJ.out.size))
          clear q0 q1 q2 q3 q4 q5 q6 q7 hRx HZ HJ HW3
          generalize q.1 = W5 at *
          go_wp2_with fail
          go_roundw
          case measure => simp [intOf]; omega
          case rel => exact ⟨j + 1, by omega, by go_num, HQJ⟩
        · obtain rfl : j = steps2.length := by omega
          clear hlj
          have l0 : wr.cell? ⟨pb, 2, none⟩ = some (.slice (some ⟨vb, voff, none⟩) waves2.length wq) := (HJ.out.cell (World.block_lt_of_cell? _ _ b0')).trans b0'
          have l1 : wr.cell? ⟨pb + 1, 2, none⟩ = some (.slice (some ⟨ub, uoff, none⟩) waves2.length wq2) := (HJ.out.cell (World.block_lt_of_cell? _ _ b1')).trans b1'
          have l2 : wr.cell? ⟨vb, voff + k, none⟩ = some (.slice VA steps2.length vc) := (HJ.out.cell (World.block_lt_of_cell? _ _ v0')).trans v0'
          have HW3 : Hid (pb ≤ W3.heap.size) := Lib.hid (by have := HI2.out.size; have := HPB.out; omega)
          have HI4 : Hid (Below pb w wr) := Lib.hid (HI2.out.trans (HJ.out.mono HW3.out))
          clear HJ b0' b1' v0' u0'
          go_wp2_with fail
          go_roundw
          case measure => simp [intOf]; omega
          case rel => exact ⟨k + 1, by omega, by go_num, HI4, l0, l1⟩
    · obtain rfl : k = waves2.length := by omega
      clear hlt
      go_wp2_with fail
      go_ret
      exact ⟨rfl, by obtain rfl := HPB.out; exact HI.out⟩
end Go.Proofs.YtblibmalommdkaaGreat
