/-
  The law RedoPacks: every journal is packed as the document says, or refused.
-/
import Derived.Test.YtblibmalommdkaaGreatDPack
import Derived.Test.YtblibmalommdkaaGreatDGreat
import Derived.Test.YtblibmalommdkaaGreatDLawo
import Derived.Test.YtblibmalommdkaaGreatKOk
namespace Go.Proofs.YtblibmalommdkaaGreat
open Go.RowKit
open Re (OwnB RdB mk3 Sup Bytes)
theorem box10_of {w : World} {k : Nat} {x0 x1 x2 x3 x4 x5 x6 x7 x8 x9 : Value} (h : w.heap[k]? = some (.cells #[x0, x1, x2, x3, x4, x5, x6, x7, x8, x9] 32 (0, 0))) : w.cell? ⟨k, 0, none⟩ = some x0 ∧ w.cell? ⟨k, 1, none⟩ = some x1 ∧ w.cell? ⟨k, 2, none⟩ = some x2 ∧ w.cell? ⟨k, 3, none⟩ = some x3 ∧ w.cell? ⟨k, 4, none⟩ = some x4 ∧ w.cell? ⟨k, 5, none⟩ = some x5 ∧ w.cell? ⟨k, 6, none⟩ = some x6 ∧ w.cell? ⟨k, 7, none⟩ = some x7 ∧ w.cell? ⟨k, 8, none⟩ = some x8 ∧ w.cell? ⟨k, 9, none⟩ = some x9 ∧ w.heap[k]? = some (.cells #[x0, x1, x2, x3, x4, x5, x6, x7, x8, x9] 32 (0, 0)) :=
  ⟨cell_of_row _ _ 0 _ 32 (0, 0) h, cell_of_row _ _ 1 _ 32 (0, 0) h, cell_of_row _ _ 2 _ 32 (0, 0) h, cell_of_row _ _ 3 _ 32 (0, 0) h, cell_of_row _ _ 4 _ 32 (0, 0) h, cell_of_row _ _ 5 _ 32 (0, 0) h, cell_of_row _ _ 6 _ 32 (0, 0) h, cell_of_row _ _ 7 _ 32 (0, 0) h, cell_of_row _ _ 8 _ 32 (0, 0) h, cell_of_row _ _ 9 _ 32 (0, 0) h, h⟩
theorem box10f_of {w : World} {k : Nat} {x0 x1 x2 x3 x4 x5 x6 x7 x8 x9 : Value} (h : w.heap[k]? = some (.cells #[x0, x1, x2, x3, x4, x5, x6, x7, x8, x9] 32 (0, 0))) : (w.cell? ⟨k, 0, none⟩ = some x0 ∧ w.cell? ⟨k, 1, none⟩ = some x1 ∧ w.cell? ⟨k, 2, none⟩ = some x2 ∧ w.cell? ⟨k, 3, none⟩ = some x3 ∧ w.cell? ⟨k, 4, none⟩ = some x4 ∧ w.cell? ⟨k, 5, none⟩ = some x5 ∧ w.cell? ⟨k, 6, none⟩ = some x6 ∧ w.cell? ⟨k, 7, none⟩ = some x7 ∧ w.cell? ⟨k, 8, none⟩ = some x8 ∧ w.cell? ⟨k, 9, none⟩ = some x9) ∧ (w.frozen? ⟨k, 0, none⟩ = false ∧ w.frozen? ⟨k, 1, none⟩ = false ∧ w.frozen? ⟨k, 2, none⟩ = false ∧ w.frozen? ⟨k, 3, none⟩ = false ∧ w.frozen? ⟨k, 4, none⟩ = false ∧ w.frozen? ⟨k, 5, none⟩ = false ∧ w.frozen? ⟨k, 6, none⟩ = false ∧ w.frozen? ⟨k, 7, none⟩ = false ∧ w.frozen? ⟨k, 8, none⟩ = false ∧ w.frozen? ⟨k, 9, none⟩ = false) :=
  ⟨⟨cell_of_row _ _ 0 _ 32 (0, 0) h, cell_of_row _ _ 1 _ 32 (0, 0) h, cell_of_row _ _ 2 _ 32 (0, 0) h, cell_of_row _ _ 3 _ 32 (0, 0) h, cell_of_row _ _ 4 _ 32 (0, 0) h, cell_of_row _ _ 5 _ 32 (0, 0) h, cell_of_row _ _ 6 _ 32 (0, 0) h, cell_of_row _ _ 7 _ 32 (0, 0) h, cell_of_row _ _ 8 _ 32 (0, 0) h, cell_of_row _ _ 9 _ 32 (0, 0) h⟩, ⟨frozen_of_row _ _ 0 _ _ h, frozen_of_row _ _ 1 _ _ h, frozen_of_row _ _ 2 _ _ h, frozen_of_row _ _ 3 _ _ h, frozen_of_row _ _ 4 _ _ h, frozen_of_row _ _ 5 _ _ h, frozen_of_row _ _ 6 _ _ h, frozen_of_row _ _ 7 _ _ h, frozen_of_row _ _ 8 _ _ h, frozen_of_row _ _ 9 _ _ h⟩⟩
theorem set10 {w : World} {k : Nat} {x0 x1 x2 x3 x4 x5 x6 x7 x8 x9 : Value} (y0 y1 y2 y3 y4 y5 y6 y7 y8 y9 : Value) (h : w.heap[k]? = some (.cells #[x0, x1, x2, x3, x4, x5, x6, x7, x8, x9] 32 (0, 0))) : ((((((((((w.setCell ⟨k, 0, none⟩ y0).setCell ⟨k, 1, none⟩ y1).setCell ⟨k, 2, none⟩ y2).setCell ⟨k, 3, none⟩ y3).setCell ⟨k, 4, none⟩ y4).setCell ⟨k, 5, none⟩ y5).setCell ⟨k, 6, none⟩ y6).setCell ⟨k, 7, none⟩ y7).setCell ⟨k, 8, none⟩ y8).setCell ⟨k, 9, none⟩ y9).heap[k]? = some (.cells #[y0, y1, y2, y3, y4, y5, y6, y7, y8, y9] 32 (0, 0)) ∧ ∀ b, b ≠ k → ((((((((((w.setCell ⟨k, 0, none⟩ y0).setCell ⟨k, 1, none⟩ y1).setCell ⟨k, 2, none⟩ y2).setCell ⟨k, 3, none⟩ y3).setCell ⟨k, 4, none⟩ y4).setCell ⟨k, 5, none⟩ y5).setCell ⟨k, 6, none⟩ y6).setCell ⟨k, 7, none⟩ y7).setCell ⟨k, 8, none⟩ y8).setCell ⟨k, 9, none⟩ y9).heap[b]? = w.heap[b]? := by
  have r0 : (w.setCell ⟨k, 0, none⟩ y0).heap[k]? = some (.cells #[y0, x1, x2, x3, x4, x5, x6, x7, x8, x9] 32 (0, 0)) := heap_setCell_same _ k 0 _ 32 y0 h
  have r1 : ((w.setCell ⟨k, 0, none⟩ y0).setCell ⟨k, 1, none⟩ y1).heap[k]? = some (.cells #[y0, y1, x2, x3, x4, x5, x6, x7, x8, x9] 32 (0, 0)) := heap_setCell_same _ k 1 _ 32 y1 r0
  have r2 : (((w.setCell ⟨k, 0, none⟩ y0).setCell ⟨k, 1, none⟩ y1).setCell ⟨k, 2, none⟩ y2).heap[k]? = some (.cells #[y0, y1, y2, x3, x4, x5, x6, x7, x8, x9] 32 (0, 0)) := heap_setCell_same _ k 2 _ 32 y2 r1
  have r3 : ((((w.setCell ⟨k, 0, none⟩ y0).setCell ⟨k, 1, none⟩ y1).setCell ⟨k, 2, none⟩ y2).setCell ⟨k, 3, none⟩ y3).heap[k]? = some (.cells #[y0, y1, y2, y3, x4, x5, x6, x7, x8, x9] 32 (0, 0)) := heap_setCell_same _ k 3 _ 32 y3 r2
  have r4 : (((((w.setCell ⟨k, 0, none⟩ y0).setCell ⟨k, 1, none⟩ y1).setCell ⟨k, 2, none⟩ y2).setCell ⟨k, 3, none⟩ y3).setCell ⟨k, 4, none⟩ y4).heap[k]? = some (.cells #[y0, y1, y2, y3, y4, x5, x6, x7, x8, x9] 32 (0, 0)) := heap_setCell_same _ k 4 _ 32 y4 r3
  have r5 : ((((((w.setCell ⟨k, 0, none⟩ y0).setCell ⟨k, 1, none⟩ y1).setCell ⟨k, 2, none⟩ y2).setCell ⟨k, 3, none⟩ y3).setCell ⟨k, 4, none⟩ y4).setCell ⟨k, 5, none⟩ y5).heap[k]? = some (.cells #[y0, y1, y2, y3, y4, y5, x6, x7, x8, x9] 32 (0, 0)) := heap_setCell_same _ k 5 _ 32 y5 r4
  have r6 : (((((((w.setCell ⟨k, 0, none⟩ y0).setCell ⟨k, 1, none⟩ y1).setCell ⟨k, 2, none⟩ y2).setCell ⟨k, 3, none⟩ y3).setCell ⟨k, 4, none⟩ y4).setCell ⟨k, 5, none⟩ y5).setCell ⟨k, 6, none⟩ y6).heap[k]? = some (.cells #[y0, y1, y2, y3, y4, y5, y6, x7, x8, x9] 32 (0, 0)) := heap_setCell_same _ k 6 _ 32 y6 r5
  have r7 : ((((((((w.setCell ⟨k, 0, none⟩ y0).setCell ⟨k, 1, none⟩ y1).setCell ⟨k, 2, none⟩ y2).setCell ⟨k, 3, none⟩ y3).setCell ⟨k, 4, none⟩ y4).setCell ⟨k, 5, none⟩ y5).setCell ⟨k, 6, none⟩ y6).setCell ⟨k, 7, none⟩ y7).heap[k]? = some (.cells #[y0, y1, y2, y3, y4, y5, y6, y7, x8, x9] 32 (0, 0)) := heap_setCell_same _ k 7 _ 32 y7 r6
  have r8 : (((((((((w.setCell ⟨k, 0, none⟩ y0).setCell ⟨k, 1, none⟩ y1).setCell ⟨k, 2, none⟩ y2).setCell ⟨k, 3, none⟩ y3).setCell ⟨k, 4, none⟩ y4).setCell ⟨k, 5, none⟩ y5).setCell ⟨k, 6, none⟩ y6).setCell ⟨k, 7, none⟩ y7).setCell ⟨k, 8, none⟩ y8).heap[k]? = some (.cells #[y0, y1, y2, y3, y4, y5, y6, y7, y8, x9] 32 (0, 0)) := heap_setCell_same _ k 8 _ 32 y8 r7
  have r9 : ((((((((((w.setCell ⟨k, 0, none⟩ y0).setCell ⟨k, 1, none⟩ y1).setCell ⟨k, 2, none⟩ y2).setCell ⟨k, 3, none⟩ y3).setCell ⟨k, 4, none⟩ y4).setCell ⟨k, 5, none⟩ y5).setCell ⟨k, 6, none⟩ y6).setCell ⟨k, 7, none⟩ y7).setCell ⟨k, 8, none⟩ y8).setCell ⟨k, 9, none⟩ y9).heap[k]? = some (.cells #[y0, y1, y2, y3, y4, y5, y6, y7, y8, y9] 32 (0, 0)) := heap_setCell_same _ k 9 _ 32 y9 r8
  exact ⟨r9, fun b hb => by rw [heap_setCell_other _ _ _ _ hb, heap_setCell_other _ _ _ _ hb, heap_setCell_other _ _ _ _ hb, heap_setCell_other _ _ _ _ hb, heap_setCell_other _ _ _ _ hb, heap_setCell_other _ _ _ _ hb, heap_setCell_other _ _ _ _ hb, heap_setCell_other _ _ _ _ hb, heap_setCell_other _ _ _ _ hb, heap_setCell_other _ _ _ _ hb]⟩
theorem fin10 {w w3 : World} {k : Nat} {x0 x1 x2 x3 x4 x5 x6 x7 x8 x9 : Value} (y0 y1 y2 y3 y4 y5 y6 y7 y8 y9 : Value) (hk : w.heap[k]? = some (.cells #[x0, x1, x2, x3, x4, x5, x6, x7, x8, x9] 32 (0, 0))) {B B2 : Nat} {q : PlV} (hop : OwnP w B q) {A : Option Addr} {n c : Nat} {l : List Int} (hob : OwnB w B2 A n c l) (hb : Below w3.heap.size w3 w) (hkb : w3.heap.size ≤ k) :
    Below w3.heap.size w3 ((((((((((w.setCell ⟨k, 0, none⟩ y0).setCell ⟨k, 1, none⟩ y1).setCell ⟨k, 2, none⟩ y2).setCell ⟨k, 3, none⟩ y3).setCell ⟨k, 4, none⟩ y4).setCell ⟨k, 5, none⟩ y5).setCell ⟨k, 6, none⟩ y6).setCell ⟨k, 7, none⟩ y7).setCell ⟨k, 8, none⟩ y8).setCell ⟨k, 9, none⟩ y9) ∧ ((((((((((w.setCell ⟨k, 0, none⟩ y0).setCell ⟨k, 1, none⟩ y1).setCell ⟨k, 2, none⟩ y2).setCell ⟨k, 3, none⟩ y3).setCell ⟨k, 4, none⟩ y4).setCell ⟨k, 5, none⟩ y5).setCell ⟨k, 6, none⟩ y6).setCell ⟨k, 7, none⟩ y7).setCell ⟨k, 8, none⟩ y8).setCell ⟨k, 9, none⟩ y9).heap[k]? = some (.cells #[y0, y1, y2, y3, y4, y5, y6, y7, y8, y9] 32 (0, 0)) ∧ OwnP ((((((((((w.setCell ⟨k, 0, none⟩ y0).setCell ⟨k, 1, none⟩ y1).setCell ⟨k, 2, none⟩ y2).setCell ⟨k, 3, none⟩ y3).setCell ⟨k, 4, none⟩ y4).setCell ⟨k, 5, none⟩ y5).setCell ⟨k, 6, none⟩ y6).setCell ⟨k, 7, none⟩ y7).setCell ⟨k, 8, none⟩ y8).setCell ⟨k, 9, none⟩ y9) B q ∧ OwnB ((((((((((w.setCell ⟨k, 0, none⟩ y0).setCell ⟨k, 1, none⟩ y1).setCell ⟨k, 2, none⟩ y2).setCell ⟨k, 3, none⟩ y3).setCell ⟨k, 4, none⟩ y4).setCell ⟨k, 5, none⟩ y5).setCell ⟨k, 6, none⟩ y6).setCell ⟨k, 7, none⟩ y7).setCell ⟨k, 8, none⟩ y8).setCell ⟨k, 9, none⟩ y9) B2 A n c l := by
  obtain ⟨h1, h2⟩ := set10 y0 y1 y2 y3 y4 y5 y6 y7 y8 y9 hk
  have h3 : Below w3.heap.size w3 ((((((((((w.setCell ⟨k, 0, none⟩ y0).setCell ⟨k, 1, none⟩ y1).setCell ⟨k, 2, none⟩ y2).setCell ⟨k, 3, none⟩ y3).setCell ⟨k, 4, none⟩ y4).setCell ⟨k, 5, none⟩ y5).setCell ⟨k, 6, none⟩ y6).setCell ⟨k, 7, none⟩ y7).setCell ⟨k, 8, none⟩ y8).setCell ⟨k, 9, none⟩ y9) := ((((((((((hb.setCell (p := ⟨k, 0, none⟩) hkb y0).setCell (p := ⟨k, 1, none⟩) hkb y1).setCell (p := ⟨k, 2, none⟩) hkb y2).setCell (p := ⟨k, 3, none⟩) hkb y3).setCell (p := ⟨k, 4, none⟩) hkb y4).setCell (p := ⟨k, 5, none⟩) hkb y5).setCell (p := ⟨k, 6, none⟩) hkb y6).setCell (p := ⟨k, 7, none⟩) hkb y7).setCell (p := ⟨k, 8, none⟩) hkb y8).setCell (p := ⟨k, 9, none⟩) hkb y9)
  generalize ((((((((((w.setCell ⟨k, 0, none⟩ y0).setCell ⟨k, 1, none⟩ y1).setCell ⟨k, 2, none⟩ y2).setCell ⟨k, 3, none⟩ y3).setCell ⟨k, 4, none⟩ y4).setCell ⟨k, 5, none⟩ y5).setCell ⟨k, 6, none⟩ y6).setCell ⟨k, 7, none⟩ y7).setCell ⟨k, 8, none⟩ y8).setCell ⟨k, 9, none⟩ y9) = wf at *
  have kt : ∀ e B, e ≠ 32 → Kt w wf B e := fun e B he b _ _ ⟨cs, hc⟩ => h2 b (fun h => by
    rw [h, hk] at hc
    injection hc with hc
    injection hc with _ h5 _
    exact he h5.symm)
  exact ⟨h3, h1, hop.keep (kt _ _ (by decide)) (kt _ _ (by decide)) (kt _ _ (by decide)) (kt _ _ (by decide)), ⟨hob.1, row_hi hob.2 (kt 5 _ (by decide))⟩⟩
theorem packJ_plan {j : Jn} (hp : FitP j.pln) : Re.pPlan (packJ j) 68 = some (j.pln, 68 + (bPlan j.pln).length) := by
  have h0 : At (packJ j) 0 (Re.leB j.old 4 ++ (Re.packS j.sup ++ (bPlan j.pln ++ j.stash))) := ⟨[], by rw [List.drop_zero, List.append_nil]; rfl⟩
  have h1 := h0.right
  rw [Re.leB_length] at h1
  have h2 := h1.right
  rw [Re.packS_length] at h2
  exact plan_at hp 68 h2.left
theorem packJ_small (v : JnV) (h : FitV v.p) (hs : v.stash.length ≤ 1048577) : (packJ v.jn).length ≤ 10000000 ∧ 68 ≤ (packJ v.jn).length := by
  have h1 := ranges_len v.p.stash
  have h2 := h.wlen (l := v.p.waves) (fun _ hv => hv)
  have h3 := h.sl; have h4 := h.wl
  rw [packJ_rows]
  simp only [List.length_append, Re.leB_length, Re.packS_length]
  omega
theorem row_set {w : World} {k : Nat} {x : Option Obj} (h : w.heap[k]? = x) (a : Addr) (v : Value) (hne : k ≠ a.block) : (w.setCell a v).heap[k]? = x := (heap_setCell_other _ _ _ _ hne).trans h
theorem below_dr {B : Nat} {a w : World} (h : Below B a w) : Below B a w.drew := belowDrewN h 1
theorem below_al {a w : World} (h : Below a.heap.size a w) (o : Obj) : Below a.heap.size a (w.alloc o) := h.alloc h.size o
theorem below_row {a w : World} (h : Below a.heap.size a w) {k : Nat} {o : Obj} (hk : a.heap[k]? = some o) : w.heap[k]? = some o := (h.block _ (Array.getElem?_eq_some_iff.1 hk).1).trans hk
set_option maxRecDepth 100000 in
set_option maxHeartbeats 8000000 in
theorem packs_walk (v : JnV) (w : World) (hP : JnOk w w.heap.size v) (hy : Bytes v.stash) (hst : v.stash.length + 3 ≤ 140737488355328) (hx : ∀ u ∈ v.p.waves, u.steps.length ≤ 140737488355328 ∧ ∀ s ∈ u.steps, s.parts.length * 24 ≤ 140737488355328) :
    Calls Tryz.prog 4 #[.agg v.cells] w fun e w' => e = .returned (.bool true) ∧ Below w.heap.size w w' := by
  obtain ⟨old, ⟨t0, t1, t2, t3, t4⟩, ⟨sz, SA, sc, st, WA, wq, Q⟩, TA, tc, tl⟩ := v
  unfold JnV.cells
  simp only at *
  have hb1 : Below w.heap.size w (w.alloc (.cells #[.int .i64 old, .int .i64 t0, .int .i64 t1, .int .i64 t2, .int .i64 t3, .int .i64 t4, .int .i64 sz, .slice SA st.length sc, .slice WA Q.length wq, .slice TA tl.length tc] 32)) := (Below.refl _ _).alloc (Nat.le_refl _) _
  have HX1 := Lib.hid (heap_alloc_new w (.cells #[.int .i64 old, .int .i64 t0, .int .i64 t1, .int .i64 t2, .int .i64 t3, .int .i64 t4, .int .i64 sz, .slice SA st.length sc, .slice WA Q.length wq, .slice TA tl.length tc] 32))
  have HP1 := Lib.hid (hP.up hb1)
  have HB1 := Lib.hid hb1
  have HY := Lib.hid hy; have HST := Lib.hid hst; have HX := Lib.hid hx
  clear hb1 hP hy hst hx
  go_enter Tryz.func4, Tryz.ntmps4
  go_upto_region 1 with (fail)
  generalize w.alloc (.cells #[.int .i64 old, .int .i64 t0, .int .i64 t1, .int .i64 t2, .int .i64 t3, .int .i64 t4, .int .i64 sz, .slice SA st.length sc, .slice WA Q.length wq, .slice TA tl.length tc] 32) = w1 at *
  go_wp2_with fail
  refine (Re.awake_any _).mono ?_
  rintro e w2 ⟨rfl, hb⟩
  have HB2 := Lib.hid (HB1.out.trans (hb.mono HB1.out.size))
  have HX2 := Lib.hid ((hb.block _ (Array.getElem?_eq_some_iff.1 HX1.out).1).trans HX1.out)
  have HP2 := Lib.hid (HP1.out.up hb)
  clear hb HB1 HX1 HP1
  obtain ⟨⟨c0, c1, c2, c3, c4, c5, c6, c7, c8, c9⟩, _⟩ := box10f_of HX2.out
  have hcall := great_any ⟨old, ⟨t0, t1, t2, t3, t4⟩, ⟨sz, SA, sc, st, WA, wq, Q⟩, TA, tc, tl⟩ w2 HP2.out
  unfold JnV.cells at hcall
  simp only at hcall
  go_wp2_with fail
  refine hcall.mono ?_
  rintro e w3 ⟨⟨g, rfl, hg⟩, hb⟩
  have HB3 := Lib.hid (HB2.out.trans (hb.mono HB2.out.size))
  have HX3 := Lib.hid ((hb.block _ (Array.getElem?_eq_some_iff.1 HX2.out).1).trans HX2.out)
  have HP3 := Lib.hid (HP2.out.up hb)
  clear hb HB2 HX2 HP2 hcall c0 c1 c2 c3 c4 c5 c6 c7 c8 c9
  cases g with
  | true =>
    clear hg
    go_wp2_with fail
    refine (Re.awake_any _).mono ?_
    rintro e w4 ⟨rfl, hb⟩
    have HB4 := Lib.hid (HB3.out.trans (hb.mono HB3.out.size))
    clear hb
    go_wp2_with fail
    go_ret
    exact ⟨rfl, HB4.out⟩
  | false =>
    obtain ⟨hl1, hl2, hl3⟩ := hg rfl
    clear hg
    have HSM : Hid (∀ u ∈ Q, u.steps.length ≤ 200) := Lib.hid (fun u hu => by
      have h1 := sumS_le (W := Q) (M := 140737488355328) (fun u hu => (HX.out u hu).1)
      have h2 : Q.length * 140737488355328 ≤ 200 * 140737488355328 := Nat.mul_le_mul_right _ hl2
      have h3 := totS_eq (W := Q) (by omega)
      have h4 := le_sumS hu
      omega)
    have HCP : Hid (∀ W : World, Below w3.heap.size w3 W → Calls Tryz.prog 12 #[.agg #[.int .i64 sz, .slice SA st.length sc, .slice WA Q.length wq]] W fun e w' => (∃ (sz2 : Int) (SA2 : Option Addr) (sc2 : Nat) (st2 : List R) (WA2 : Option Addr) (wq2 : Nat) (Q2 : List WvV), e = .returned (.agg #[.int .i64 sz2, .slice SA2 st2.length sc2, .slice WA2 Q2.length wq2]) ∧ PlV.pln ⟨sz2, SA2, sc2, st2, WA2, wq2, Q2⟩ = PlV.pln ⟨sz, SA, sc, st, WA, wq, Q⟩ ∧ OwnP w' W.heap.size ⟨sz2, SA2, sc2, st2, WA2, wq2, Q2⟩) ∧ Below W.heap.size W w' ∧ Below w3.heap.size w3 w') := Lib.hid (fun W hW => by
      have h := Copy_plan ⟨sz, SA, sc, st, WA, wq, Q⟩ W (HP3.out.up hW).p (by simp only; omega) (by simp only; omega) (fun u hu => ⟨by have := HSM.out u hu; omega, (HX.out u hu).2⟩)
      unfold PlV.cells at h
      simp only at h
      refine h.mono ?_
      rintro e w' ⟨⟨⟨sz2, SA2, sc2, st2, WA2, wq2, Q2⟩, rfl, h1, h2⟩, hb⟩
      exact ⟨⟨sz2, SA2, sc2, st2, WA2, wq2, Q2, rfl, h1, h2⟩, hb, hW.trans (hb.mono hW.size)⟩)
    have HLN : Hid (∀ W : World, Below w3.heap.size w3 W → Calls Tryz.prog 6 #[.slice TA tl.length tc] W fun e w' => (∃ lg lc, e = .returned (.slice (some ⟨lg, 0, none⟩) tl.length lc) ∧ OwnB w' W.heap.size (some ⟨lg, 0, none⟩) (tl.length + 3) lc (tl ++ mk3)) ∧ Below W.heap.size W w' ∧ Below w3.heap.size w3 w') := Lib.hid (fun W hW => (Re.Lent_any TA tl.length tc W tl rfl (HP3.out.up hW).st HST.out).mono fun e w' h => ⟨h.1, h.2, hW.trans (h.2.mono hW.size)⟩)
    go_upto_region 3 with (fail)
    have hw3 : w.heap.size + 1 ≤ w3.heap.size := (Array.getElem?_eq_some_iff.1 HX3.out).1
    have HXd : Hid (w3.drew.heap[w.heap.size]? = some (.cells #[.int .i64 old, .int .i64 t0, .int .i64 t1, .int .i64 t2, .int .i64 t3, .int .i64 t4, .int .i64 sz, .slice SA st.length sc, .slice WA Q.length wq, .slice TA tl.length tc] 32 (0, 0))) := Lib.hid HX3.out
    have hlt0 : w.heap.size < w3.heap.size := hw3
    have HBD : Hid (Below w3.heap.size w3 w3.drew) := Lib.hid (belowDrewN (Below.refl _ _) 1)
    go_cut [3] (fun v wx => ∃ (kb : Nat) (sz2 : Int) (SA2 : Option Addr) (sc2 : Nat) (st2 : List R) (WA2 : Option Addr) (wq2 : Nat) (Q2 : List WvV) (lg lc : Nat), v = .pointer (some ⟨kb, 0, none⟩) ∧ Hid (Below w3.heap.size w3 wx ∧ wx.heap[kb]? = some (.cells #[.int .i64 old, .int .i64 t0, .int .i64 t1, .int .i64 t2, .int .i64 t3, .int .i64 t4, .int .i64 sz2, .slice SA2 st2.length sc2, .slice WA2 Q2.length wq2, .slice (some ⟨lg, 0, none⟩) tl.length lc] 32 (0, 0)) ∧ PlV.pln ⟨sz2, SA2, sc2, st2, WA2, wq2, Q2⟩ = PlV.pln ⟨sz, SA, sc, st, WA, wq, Q⟩ ∧ (∃ B, OwnP wx B ⟨sz2, SA2, sc2, st2, WA2, wq2, Q2⟩) ∧ (∃ B, OwnB wx B (some ⟨lg, 0, none⟩) (tl.length + 3) lc (tl ++ mk3))))
    case first =>
      go_region_held3 (fun w' => w'.cell? ⟨w.heap.size, 0, none⟩ = some (.int .i64 old) ∧ w'.cell? ⟨w.heap.size, 1, none⟩ = some (.int .i64 t0) ∧ w'.cell? ⟨w.heap.size, 2, none⟩ = some (.int .i64 t1) ∧ w'.cell? ⟨w.heap.size, 3, none⟩ = some (.int .i64 t2) ∧ w'.cell? ⟨w.heap.size, 4, none⟩ = some (.int .i64 t3) ∧ w'.cell? ⟨w.heap.size, 5, none⟩ = some (.int .i64 t4) ∧ w'.cell? ⟨w.heap.size, 6, none⟩ = some (.int .i64 sz) ∧ w'.cell? ⟨w.heap.size, 7, none⟩ = some (.slice SA st.length sc) ∧ w'.cell? ⟨w.heap.size, 8, none⟩ = some (.slice WA Q.length wq) ∧ w'.cell? ⟨w.heap.size, 9, none⟩ = some (.slice TA tl.length tc) ∧ w'.heap[w.heap.size]? = some (.cells #[.int .i64 old, .int .i64 t0, .int .i64 t1, .int .i64 t2, .int .i64 t3, .int .i64 t4, .int .i64 sz, .slice SA st.length sc, .slice WA Q.length wq, .slice TA tl.length tc] 32 (0, 0)))
        (with_reducible refine box10_of ?_; (repeat (first | with_reducible refine row_drew ?_ | with_reducible refine row_al ?_ _ | with_reducible refine row_set ?_ _ _ (by simp only; omega))); first | with_reducible exact HX3.out | with_reducible exact hx14 | with_reducible exact hx13)
        (first
          | (go_at_call 6; have _ := hk13; refine (HLN.out _ (by with_reducible exact hB13)).mono ?_; rintro e w14 ⟨⟨lg, lc, rfl, hob⟩, hb14, hB14⟩; have s14 := hB14.size; have hx14 := below_row hB14 HX3.out; have hk14 := (hb14.block w3.heap.size (Array.getElem?_eq_some_iff.1 hk13).1).trans hk13; obtain ⟨⟨z0, z1, z2, z3, z4, z5, z6, z7, z8, z9⟩, ⟨f0, f1, f2, f3, f4, f5, f6, f7, f8, f9⟩⟩ := box10f_of hk14)
          | (go_at_call 6; have _ := hB13; refine (HLN.out _ (by with_reducible exact below_al hB13 (.cells #[.int .i64 0, .int .i64 0, .int .i64 0, .int .i64 0, .int .i64 0, .int .i64 0, .int .i64 0, .slice none 0 0, .slice none 0 0, .slice none 0 0] 32))).mono ?_; rintro e w14 ⟨⟨lg, lc, rfl, hob⟩, hb14, hB14⟩; have s14 := hB14.size; have hx14 := below_row hB14 HX3.out; have hk14 := (hb14.block w13.heap.size (by simp)).trans (alloc_at w13 (.cells #[.int .i64 0, .int .i64 0, .int .i64 0, .int .i64 0, .int .i64 0, .int .i64 0, .int .i64 0, .slice none 0 0, .slice none 0 0, .slice none 0 0] 32) w13.heap.size rfl); obtain ⟨⟨z0, z1, z2, z3, z4, z5, z6, z7, z8, z9⟩, ⟨f0, f1, f2, f3, f4, f5, f6, f7, f8, f9⟩⟩ := box10f_of hk14)
          | (go_at_call 6; have _ := hB13; refine (HLN.out _ (by with_reducible exact hB13)).mono ?_; rintro e w14 ⟨⟨lg, lc, rfl, hob⟩, hb14, hB14⟩; have s14 := hB14.size; have hx14 := below_row hB14 HX3.out)
          | (go_at_call 12; refine (HCP.out _ (by with_reducible exact below_dr (below_al (Below.refl _ _) (.cells #[.int .i64 0, .int .i64 0, .int .i64 0, .int .i64 0, .int .i64 0, .int .i64 0, .int .i64 0, .slice none 0 0, .slice none 0 0, .slice none 0 0] 32)))).mono ?_; rintro e w13 ⟨⟨sz2, SA2, sc2, st2, WA2, wq2, Q2, rfl, hpl, hop⟩, hb13, hB13⟩; have s13 := hB13.size; have hx13 := below_row hB13 HX3.out; have hk13 := (hb13.block w3.heap.size (by simp)).trans (row_drew (alloc_at w3 (.cells #[.int .i64 0, .int .i64 0, .int .i64 0, .int .i64 0, .int .i64 0, .int .i64 0, .int .i64 0, .slice none 0 0, .slice none 0 0, .slice none 0 0] 32) w3.heap.size rfl)))
          | (go_at_call 12; refine (HCP.out _ (by with_reducible exact below_dr (Below.refl _ _))).mono ?_; rintro e w13 ⟨⟨sz2, SA2, sc2, st2, WA2, wq2, Q2, rfl, hpl, hop⟩, hb13, hB13⟩; have s13 := hB13.size; have hx13 := below_row hB13 HX3.out))
      · go_wp2_with fail
        go_meet
        exact ⟨w14.heap.size, sz2, SA2, sc2, st2, WA2, wq2, Q2, lg, lc, rfl, Lib.hid ⟨hB14.alloc hB14.size _, heap_alloc_new _ _, hpl, ⟨_, (hop.below hb14 (Nat.le_refl _)).below ((Below.refl _ _).alloc (Nat.le_refl _) _) (Nat.le_refl _)⟩, ⟨_, hob.alloc _⟩⟩⟩
      · have h := fin10 (.int .i64 old) (.int .i64 t0) (.int .i64 t1) (.int .i64 t2) (.int .i64 t3) (.int .i64 t4) (.int .i64 sz2) (.slice SA2 st2.length sc2) (.slice WA2 Q2.length wq2) (.slice (some ⟨lg, 0, none⟩) tl.length lc) hk14 ((hop.below ((Below.refl _ _).alloc (Nat.le_refl _) (.cells #[.int .i64 0, .int .i64 0, .int .i64 0, .int .i64 0, .int .i64 0, .int .i64 0, .int .i64 0, .slice none 0 0, .slice none 0 0, .slice none 0 0] 32)) (Nat.le_refl _)).below hb14 (Nat.le_refl _)) hob hB14 s13
        go_wp2_with fail
        go_meet
        exact ⟨w13.heap.size, sz2, SA2, sc2, st2, WA2, wq2, Q2, lg, lc, rfl, Lib.hid ⟨h.1, h.2.1, hpl, ⟨_, h.2.2.1⟩, ⟨_, h.2.2.2⟩⟩⟩
      · have h := fin10 (.int .i64 old) (.int .i64 t0) (.int .i64 t1) (.int .i64 t2) (.int .i64 t3) (.int .i64 t4) (.int .i64 sz2) (.slice SA2 st2.length sc2) (.slice WA2 Q2.length wq2) (.slice (some ⟨lg, 0, none⟩) tl.length lc) hk14 (hop.below hb14 (Nat.le_refl _)) hob hB14 (Nat.le_refl _)
        go_wp2_with fail
        go_meet
        exact ⟨w3.heap.size, sz2, SA2, sc2, st2, WA2, wq2, Q2, lg, lc, rfl, Lib.hid ⟨h.1, h.2.1, hpl, ⟨_, h.2.2.1⟩, ⟨_, h.2.2.2⟩⟩⟩
    case rest =>
      obtain ⟨kb, sz2, SA2, sc2, st2, WA2, wq2, Q2, lg, lc, rfl, HI⟩ := hcut
      have HBC := Lib.hid HI.out.1
      have HK := Lib.hid HI.out.2.1
      have HPL := Lib.hid HI.out.2.2.1
      obtain ⟨BP, hop⟩ := HI.out.2.2.2.1
      obtain ⟨BB, hob⟩ := HI.out.2.2.2.2
      have hlc := hob.cap
      unfold maxLen at hlc
      have HRB := Lib.hid hob.rd
      have HXC := Lib.hid (below_row HBC.out HX3.out)
      have HPC := Lib.hid (HP3.out.up HBC.out)
      have HBW := Lib.hid (HB3.out.trans (HBC.out.mono HB3.out.size))
      have HPO := Lib.hid (hop.ok_of (p := ⟨sz, SA, sc, st, WA, wq, Q⟩) HPL.out HP3.out.p)
      clear HI hop hob HCP HLN HXd HBD HB3 HX3
      have htn : tl.length ≤ lc := by omega
      have hpref : ∀ W : World, RdB W W.heap.size (some ⟨lg, 0, none⟩) (tl ++ mk3) → RdB W W.heap.size (some ⟨lg, 0, none⟩) tl := fun W h => by
        have h := h.piece 0 tl.length
        rw [List.drop_zero, List.take_append_of_le_length (Nat.le_refl _), List.take_of_length_le (Nat.le_refl _)] at h
        exact h
      have HJ : Hid (JnOk wc wc.heap.size ⟨old, ⟨t0, t1, t2, t3, t4⟩, ⟨sz2, SA2, sc2, st2, WA2, wq2, Q2⟩, some ⟨lg, 0, none⟩, lc, tl⟩) := Lib.hid ⟨HPO.out, hpref _ HRB.out, ⟨htn, by simp only; omega⟩, (fun h => by cases h), HPC.out.o⟩
      have HJN : Hid (JnV.jn ⟨old, ⟨t0, t1, t2, t3, t4⟩, ⟨sz2, SA2, sc2, st2, WA2, wq2, Q2⟩, some ⟨lg, 0, none⟩, lc, tl⟩ = JnV.jn ⟨old, ⟨t0, t1, t2, t3, t4⟩, ⟨sz, SA, sc, st, WA, wq, Q⟩, TA, tc, tl⟩) := Lib.hid (by unfold JnV.jn; simp only; rw [HPL.out])
      have hl1' : st2.length ≤ 60 := by have h := congrArg (fun p => p.stash.length) HPL.out; simp only [PlV.pln] at h; omega
      have hl2' : Q2.length ≤ 200 := by have h := congrArg (fun p => p.waves.length) HPL.out; simp only [PlV.pln, List.length_map] at h; omega
      have hcall := PackJ_any ⟨old, ⟨t0, t1, t2, t3, t4⟩, ⟨sz2, SA2, sc2, st2, WA2, wq2, Q2⟩, some ⟨lg, 0, none⟩, lc, tl⟩ wc HJ.out hl1' hl2'
      unfold JnV.cells at hcall
      simp only at hcall
      obtain ⟨⟨k0, k1, k2, k3, k4, k5, k6, k7, k8, k9⟩, _⟩ := box10f_of HK.out
      go_wp2_with fail
      refine hcall.mono ?_
      rintro e w5 ⟨hans, hb⟩
      have HBc := HBW; have HXc := HXC; have HKc := HK; have HPc := HPC; have HJc := HJ; have HRc := HRB
      clear HBW HXC HK HPC HJ HRB HBC HPO HPL hcall htn
      clear k0 k1 k2 k3 k4 k5 k6 k7 k8 k9
      have HB5 := Lib.hid (HBc.out.trans (hb.mono HBc.out.size))
      have HX5 := Lib.hid ((hb.block _ (Array.getElem?_eq_some_iff.1 HXc.out).1).trans HXc.out)
      have HK5 := Lib.hid ((hb.block _ (Array.getElem?_eq_some_iff.1 HKc.out).1).trans HKc.out)
      have HP5 := Lib.hid (HPc.out.up hb); have HJ5 := Lib.hid (HJc.out.up hb)
      have HR5 := Lib.hid ((HRc.out.below hb (Nat.le_refl _)).more hb.size)
      clear HBc HXc HKc HPc HJc HRc
      rw [HJN.out] at hans
      have hrc := RefPackJ_any ⟨old, ⟨t0, t1, t2, t3, t4⟩, ⟨sz, SA, sc, st, WA, wq, Q⟩, TA, tc, tl⟩ w5 HP5.out hl1 hl2
      unfold JnV.cells at hrc
      simp only at hrc
      obtain ⟨j0, hj0⟩ : ∃ j, JnV.jn ⟨old, ⟨t0, t1, t2, t3, t4⟩, ⟨sz, SA, sc, st, WA, wq, Q⟩, TA, tc, tl⟩ = j := ⟨_, rfl⟩
      have HJ0 := Lib.hid hj0
      rcases hans with ⟨hmay, A5, c5, rfl, hown5⟩ | ⟨hno, rfl⟩
      · have HMY := Lib.hid hmay; have HOWN5 := Lib.hid hown5
        clear hmay hown5
        have hmay' : MayJ j0 := by rw [← HJ0.out]; exact HMY.out
        have HMAY := Lib.hid hmay'
        obtain ⟨hf0, hf1, hf2⟩ := may_fits (j := j0) hmay' (by rw [← HJ0.out]; exact hl1) (by rw [← HJ0.out]; simpa [JnV.jn, PlV.pln] using hl2)
        have HREAD := Lib.hid (packJ_reads hf0 hmay'.2.2.1 hf1)
        have HPLN := Lib.hid (packJ_plan hf1)
        have HBY := Lib.hid (packJ_bytes (j := j0) (by rw [← HJ0.out]; exact HY.out))
        obtain ⟨hsm, hbg⟩ : (packJ j0).length ≤ 10000000 ∧ 68 ≤ (packJ j0).length := by
          rw [← HJ0.out]
          exact packJ_small ⟨old, ⟨t0, t1, t2, t3, t4⟩, ⟨sz, SA, sc, st, WA, wq, Q⟩, TA, tc, tl⟩ (fit_rows (by rw [← HJ0.out] at hf1; exact hf1)) (by rw [← HJ0.out] at hf2; exact hf2)
        have hpn : j0.pln.stash.length ≤ 60 ∧ j0.pln.waves.length ≤ 200 := ⟨hf1.sl, hf1.wl⟩
        clear hf0 hf1 hf2 hmay'
        have hown5 := HOWN5.out
        rw [HJ0.out] at hown5 ⊢
        obtain ⟨L, hL⟩ : ∃ L, packJ j0 = L := ⟨_, rfl⟩
        have HL := Lib.hid hL
        rw [hL] at hown5 hsm hbg HREAD HPLN HBY ⊢
        clear hL HOWN5
        obtain ⟨g5, rfl, _, _, hcap5, hcap6⟩ := hown5.form (by omega)
        unfold maxLen at hcap6
        have HQ5 := Lib.hid hown5.rd
        clear hown5
        obtain ⟨⟨c0, c1, c2, c3, c4, c5, c6, c7, c8, c9⟩, _⟩ := box10f_of HX5.out
        go_wp2_with fail
        refine hrc.mono ?_
        rintro e w6 ⟨hr, hb⟩
        rw [HJ0.out, HL.out] at hr
        obtain ⟨A6, d6, rfl, hown6⟩ : ∃ A c, e = .returned (.tuple #[.slice A L.length c, .int .i64 0]) ∧ OwnB w6 w5.heap.size A L.length c L := by
          rcases hr with ⟨_, h⟩ | ⟨h, _⟩
          · exact h
          · exact absurd HMAY.out h
        have HW6 := Lib.hid hown6.rd
        clear hr hrc hown6
        clear c0 c1 c2 c3 c4 c5 c6 c7 c8 c9
        have HB6 := Lib.hid (HB5.out.trans (hb.mono HB5.out.size))
        have HX6 := Lib.hid ((hb.block _ (Array.getElem?_eq_some_iff.1 HX5.out).1).trans HX5.out)
        have HK6 := Lib.hid ((hb.block _ (Array.getElem?_eq_some_iff.1 HK5.out).1).trans HK5.out)
        have HP6 := Lib.hid (HP5.out.up hb); have HJ6 := Lib.hid (HJ5.out.up hb)
        have HR6 := Lib.hid ((HR5.out.below hb (Nat.le_refl _)).more hb.size)
        have HQ6 := Lib.hid ((HQ5.out.below hb (Nat.le_refl _)).more hb.size)
        clear HB5 HX5 HK5 HP5 HJ5 HR5 HQ5
        go_wp2_with fail
        refine (Re.Same_true (some ⟨g5, 0, none⟩) L.length c5 A6 L.length d6 w6 L rfl HQ6.out (by omega) rfl HW6.out).mono ?_
        rintro e w7 ⟨rfl, hb⟩
        clear HW6
        have HB7 := Lib.hid (HB6.out.trans (hb.mono HB6.out.size))
        have HX7 := Lib.hid ((hb.block _ (Array.getElem?_eq_some_iff.1 HX6.out).1).trans HX6.out)
        have HK7 := Lib.hid ((hb.block _ (Array.getElem?_eq_some_iff.1 HK6.out).1).trans HK6.out)
        have HP7 := Lib.hid (HP6.out.up hb); have HJ7 := Lib.hid (HJ6.out.up hb)
        have HR7 := Lib.hid ((HR6.out.below hb (Nat.le_refl _)).more hb.size)
        have HQ7 := Lib.hid ((HQ6.out.below hb (Nat.le_refl _)).more hb.size)
        clear HB6 HX6 HK6 HP6 HJ6 HR6 HQ6
        obtain ⟨⟨c0, c1, c2, c3, c4, c5, c6, c7, c8, c9⟩, _⟩ := box10f_of HX7.out
        obtain ⟨⟨k0, k1, k2, k3, k4, k5, k6, k7, k8, k9⟩, _⟩ := box10f_of HK7.out
        have hs := SameJ_true ⟨old, ⟨t0, t1, t2, t3, t4⟩, ⟨sz2, SA2, sc2, st2, WA2, wq2, Q2⟩, some ⟨lg, 0, none⟩, lc, tl⟩ ⟨old, ⟨t0, t1, t2, t3, t4⟩, ⟨sz, SA, sc, st, WA, wq, Q⟩, TA, tc, tl⟩ w7 HJ7.out HP7.out HJN.out
        unfold JnV.cells at hs
        simp only at hs
        go_wp2_with fail
        refine hs.mono ?_
        rintro e w8 ⟨rfl, hb⟩
        clear c0 c1 c2 c3 c4 c5 c6 c7 c8 c9
        clear k0 k1 k2 k3 k4 k5 k6 k7 k8 k9
        clear hs
        have HB8 := Lib.hid (HB7.out.trans (hb.mono HB7.out.size))
        have HX8 := Lib.hid ((hb.block _ (Array.getElem?_eq_some_iff.1 HX7.out).1).trans HX7.out)
        have HK8 := Lib.hid ((hb.block _ (Array.getElem?_eq_some_iff.1 HK7.out).1).trans HK7.out)
        have HP8 := Lib.hid (HP7.out.up hb); have HJ8 := Lib.hid (HJ7.out.up hb)
        have HR8 := Lib.hid ((HR7.out.below hb (Nat.le_refl _)).more hb.size)
        have HQ8 := Lib.hid ((HQ7.out.below hb (Nat.le_refl _)).more hb.size)
        clear HB7 HX7 HK7 HP7 HJ7 HR7 HQ7
        obtain ⟨⟨_, _, _, _, _, _, _, _, _, c9⟩, _⟩ := box10f_of HX8.out
        obtain ⟨⟨_, _, _, _, _, _, _, _, _, k9⟩, _⟩ := box10f_of HK8.out
        go_wp2_with fail
        refine (Re.Kept_any (some ⟨lg, 0, none⟩) tl.length lc TA tc w8 tl rfl HR8.out (by omega) (by omega) HP8.out.st).mono ?_
        rintro e w9 ⟨rfl, hb⟩
        clear c9 k9
        have HB9 := Lib.hid (HB8.out.trans (hb.mono HB8.out.size))
        have HX9 := Lib.hid ((hb.block _ (Array.getElem?_eq_some_iff.1 HX8.out).1).trans HX8.out)
        have HK9 := Lib.hid ((hb.block _ (Array.getElem?_eq_some_iff.1 HK8.out).1).trans HK8.out)
        have HP9 := Lib.hid (HP8.out.up hb); have HJ9 := Lib.hid (HJ8.out.up hb)
        have HR9 := Lib.hid ((HR8.out.below hb (Nat.le_refl _)).more hb.size)
        have HQ9 := Lib.hid ((HQ8.out.below hb (Nat.le_refl _)).more hb.size)
        clear HB8 HX8 HK8 HP8 HJ8 HR8 HQ8
        have hop := Open_any w9 (some ⟨g5, 0, none⟩) L.length c5 L rfl HQ9.out HBY.out (by omega) ⟨hcap5, by omega⟩ (.inr ⟨g5, 0, rfl⟩) (fun q b h => by
          rw [HPLN.out] at h
          injection h with h
          injection h with h _
          rw [← h]; omega)
        go_wp2_with fail
        refine hop.mono ?_
        rintro e w10 h
        obtain ⟨⟨⟨oldn, ⟨s0, s1, s2, s3, s4⟩, ⟨szn, SAn, scn, stn, WAn, wqn, Qn⟩, TAn, tcn, tln⟩, z, rfl, hok, hres⟩, hb⟩ := ans_of h
        obtain ⟨hjn, rfl⟩ : JnV.jn ⟨oldn, ⟨s0, s1, s2, s3, s4⟩, ⟨szn, SAn, scn, stn, WAn, wqn, Qn⟩, TAn, tcn, tln⟩ = j0 ∧ z = 0 := by
          rcases hres with ⟨h1, h2, h3⟩ | ⟨h1, _, _⟩
          · rw [HREAD.out] at h1
            injection h1 with h1
            exact ⟨h1.symm, h3⟩
          · exact absurd HMAY.out (h1 _ HREAD.out)
        have HJA := Lib.hid hjn
        have HOK10 := Lib.hid hok
        clear h hres hjn hok hop
        have HB10 := Lib.hid (HB9.out.trans (hb.mono HB9.out.size))
        have HX10 := Lib.hid ((hb.block _ (Array.getElem?_eq_some_iff.1 HX9.out).1).trans HX9.out)
        have HK10 := Lib.hid ((hb.block _ (Array.getElem?_eq_some_iff.1 HK9.out).1).trans HK9.out)
        have HP10 := Lib.hid (HP9.out.up hb); have HJ10 := Lib.hid (HJ9.out.up hb)
        have HR10 := Lib.hid ((HR9.out.below hb (Nat.le_refl _)).more hb.size)
        clear HB9 HX9 HK9 HP9 HJ9 HR9
        clear HQ9
        unfold JnV.cells
        simp only
        go_upto_region 11 with (fail)
        have hb : Below w10.heap.size w10 (w10.alloc (.cells #[.int .i64 oldn, .int .i64 s0, .int .i64 s1, .int .i64 s2, .int .i64 s3, .int .i64 s4, .int .i64 szn, .slice SAn stn.length scn, .slice WAn Qn.length wqn, .slice TAn tln.length tcn] 32)) := (Below.refl _ _).alloc (Nat.le_refl _) _
        have HA11 := Lib.hid (heap_alloc_new w10 (.cells #[.int .i64 oldn, .int .i64 s0, .int .i64 s1, .int .i64 s2, .int .i64 s3, .int .i64 s4, .int .i64 szn, .slice SAn stn.length scn, .slice WAn Qn.length wqn, .slice TAn tln.length tcn] 32))
        have HOK11 := Lib.hid (HOK10.out.up hb)
        generalize w10.alloc (.cells #[.int .i64 oldn, .int .i64 s0, .int .i64 s1, .int .i64 s2, .int .i64 s3, .int .i64 s4, .int .i64 szn, .slice SAn stn.length scn, .slice WAn Qn.length wqn, .slice TAn tln.length tcn] 32) = w11 at *
        have HB11 := Lib.hid (HB10.out.trans (hb.mono HB10.out.size))
        have HX11 := Lib.hid ((hb.block _ (Array.getElem?_eq_some_iff.1 HX10.out).1).trans HX10.out)
        have HK11 := Lib.hid ((hb.block _ (Array.getElem?_eq_some_iff.1 HK10.out).1).trans HK10.out)
        have HP11 := Lib.hid (HP10.out.up hb); have HJ11 := Lib.hid (HJ10.out.up hb)
        have HR11 := Lib.hid ((HR10.out.below hb (Nat.le_refl _)).more hb.size)
        clear HB10 HX10 HK10 HP10 HJ10 HR10
        obtain ⟨ab, hab⟩ : ∃ ab, ab = w10.heap.size := ⟨_, rfl⟩
        rw [← hab] at HA11 ⊢
        clear hab hb HOK10
        obtain ⟨⟨c0, c1, c2, c3, c4, c5, c6, c7, c8, c9⟩, _⟩ := box10f_of HX11.out
        obtain ⟨⟨k0, k1, k2, k3, k4, k5, k6, k7, k8, k9⟩, _⟩ := box10f_of HA11.out
        have hs := SameJ_true ⟨oldn, ⟨s0, s1, s2, s3, s4⟩, ⟨szn, SAn, scn, stn, WAn, wqn, Qn⟩, TAn, tcn, tln⟩ ⟨old, ⟨t0, t1, t2, t3, t4⟩, ⟨sz, SA, sc, st, WA, wq, Q⟩, TA, tc, tl⟩ w11 HOK11.out HP11.out (HJA.out.trans HJ0.out.symm)
        unfold JnV.cells at hs
        simp only at hs
        go_wp2_with fail
        refine hs.mono ?_
        rintro e w12 ⟨rfl, hb⟩
        have HB12 := Lib.hid (HB11.out.trans (hb.mono HB11.out.size))
        clear c0 c1 c2 c3 c4 c5 c6 c7 c8 c9
        clear k0 k1 k2 k3 k4 k5 k6 k7 k8 k9
        clear hs hb
        go_wp2_with fail
        go_ret
        exact ⟨rfl, HB12.out⟩
      · have HNO := Lib.hid hno
        obtain ⟨⟨c0, c1, c2, c3, c4, c5, c6, c7, c8, c9⟩, _⟩ := box10f_of HX5.out
        go_wp2_with fail
        refine hrc.mono ?_
        rintro e w6 ⟨hr, hb⟩
        obtain rfl : e = .returned (.tuple #[.slice none 0 0, .int .i64 1]) := by
          rcases hr with ⟨h, _⟩ | ⟨_, h⟩
          · exact absurd h HNO.out
          · exact h
        clear hr hrc
        clear c0 c1 c2 c3 c4 c5 c6 c7 c8 c9
        have HB6 := Lib.hid (HB5.out.trans (hb.mono HB5.out.size))
        have HX6 := Lib.hid ((hb.block _ (Array.getElem?_eq_some_iff.1 HX5.out).1).trans HX5.out)
        have HK6 := Lib.hid ((hb.block _ (Array.getElem?_eq_some_iff.1 HK5.out).1).trans HK5.out)
        have HP6 := Lib.hid (HP5.out.up hb); have HJ6 := Lib.hid (HJ5.out.up hb)
        have HR6 := Lib.hid ((HR5.out.below hb (Nat.le_refl _)).more hb.size)
        clear HB5 HX5 HK5 HP5 HJ5 HR5
        go_wp2_with fail
        refine (Re.Same_true none 0 0 none 0 0 w6 [] rfl (Re.RdB.nil _ _ _) (by decide) rfl (Re.RdB.nil _ _ _)).mono ?_
        rintro e w7 ⟨rfl, hb⟩
        have HB7 := Lib.hid (HB6.out.trans (hb.mono HB6.out.size))
        have HX7 := Lib.hid ((hb.block _ (Array.getElem?_eq_some_iff.1 HX6.out).1).trans HX6.out)
        have HK7 := Lib.hid ((hb.block _ (Array.getElem?_eq_some_iff.1 HK6.out).1).trans HK6.out)
        have HP7 := Lib.hid (HP6.out.up hb); have HJ7 := Lib.hid (HJ6.out.up hb)
        have HR7 := Lib.hid ((HR6.out.below hb (Nat.le_refl _)).more hb.size)
        clear HB6 HX6 HK6 HP6 HJ6 HR6
        obtain ⟨⟨c0, c1, c2, c3, c4, c5, c6, c7, c8, c9⟩, _⟩ := box10f_of HX7.out
        obtain ⟨⟨k0, k1, k2, k3, k4, k5, k6, k7, k8, k9⟩, _⟩ := box10f_of HK7.out
        have hs := SameJ_true ⟨old, ⟨t0, t1, t2, t3, t4⟩, ⟨sz2, SA2, sc2, st2, WA2, wq2, Q2⟩, some ⟨lg, 0, none⟩, lc, tl⟩ ⟨old, ⟨t0, t1, t2, t3, t4⟩, ⟨sz, SA, sc, st, WA, wq, Q⟩, TA, tc, tl⟩ w7 HJ7.out HP7.out HJN.out
        unfold JnV.cells at hs
        simp only at hs
        go_wp2_with fail
        refine hs.mono ?_
        rintro e w8 ⟨rfl, hb⟩
        clear c0 c1 c2 c3 c4 c5 c6 c7 c8 c9
        clear k0 k1 k2 k3 k4 k5 k6 k7 k8 k9
        clear hs
        have HB8 := Lib.hid (HB7.out.trans (hb.mono HB7.out.size))
        have HX8 := Lib.hid ((hb.block _ (Array.getElem?_eq_some_iff.1 HX7.out).1).trans HX7.out)
        have HK8 := Lib.hid ((hb.block _ (Array.getElem?_eq_some_iff.1 HK7.out).1).trans HK7.out)
        have HP8 := Lib.hid (HP7.out.up hb); have HJ8 := Lib.hid (HJ7.out.up hb)
        have HR8 := Lib.hid ((HR7.out.below hb (Nat.le_refl _)).more hb.size)
        clear HB7 HX7 HK7 HP7 HJ7 HR7
        obtain ⟨⟨_, _, _, _, _, _, _, _, _, c9⟩, _⟩ := box10f_of HX8.out
        obtain ⟨⟨_, _, _, _, _, _, _, _, _, k9⟩, _⟩ := box10f_of HK8.out
        go_wp2_with fail
        refine (Re.Kept_any (some ⟨lg, 0, none⟩) tl.length lc TA tc w8 tl rfl HR8.out (by omega) (by omega) HP8.out.st).mono ?_
        rintro e w9 ⟨rfl, hb⟩
        clear c9 k9
        have HB9 := Lib.hid (HB8.out.trans (hb.mono HB8.out.size))
        have HX9 := Lib.hid ((hb.block _ (Array.getElem?_eq_some_iff.1 HX8.out).1).trans HX8.out)
        have HK9 := Lib.hid ((hb.block _ (Array.getElem?_eq_some_iff.1 HK8.out).1).trans HK8.out)
        have HP9 := Lib.hid (HP8.out.up hb); have HJ9 := Lib.hid (HJ8.out.up hb)
        have HR9 := Lib.hid ((HR8.out.below hb (Nat.le_refl _)).more hb.size)
        clear HB8 HX8 HK8 HP8 HJ8 HR8
        go_wp2_with fail
        go_ret
        exact ⟨rfl, HB9.out⟩
end Go.Proofs.YtblibmalommdkaaGreat
