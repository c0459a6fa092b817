/-
  great: a journal that is more than is looked at.
-/
import Derived.Test.YtblibmalommdkaaGreatDB
namespace Go.Proofs.YtblibmalommdkaaGreat
open Go.RowKit
open Re (Sup)
set_option maxRecDepth 100000 in
set_option maxHeartbeats 4000000 in
theorem great_any (v : JnV) (w : World) (hP : JnOk w w.heap.size v) :
    Calls Tryz.prog 11 #[.agg v.cells] w fun e w' => (∃ g : Bool, e = .returned (.bool g) ∧ (g = false → v.p.stash.length ≤ 60 ∧ v.p.waves.length ≤ 200 ∧ totS v.p.waves ≤ 200)) ∧ Below w.heap.size w w' := by
  obtain ⟨old, ⟨t0, t1, t2, t3, t4⟩, ⟨sz, SA, sc, st, WA, wq, Q⟩, TA, tc, tl⟩ := v
  unfold JnV.cells
  simp only at *
  have hb1 : Below w.heap.size w (w.alloc (.cells #[.int .i64 old, .int .i64 t0, .int .i64 t1, .int .i64 t2, .int .i64 t3, .int .i64 t4, .int .i64 sz, .slice SA st.length sc, .slice WA Q.length wq, .slice TA tl.length tc] 32)) := (Below.refl _ _).alloc (Nat.le_refl _) _
  have HX1 := Lib.hid (heap_alloc_new w (.cells #[.int .i64 old, .int .i64 t0, .int .i64 t1, .int .i64 t2, .int .i64 t3, .int .i64 t4, .int .i64 sz, .slice SA st.length sc, .slice WA Q.length wq, .slice TA tl.length tc] 32))
  have hcall := RefTotal_any ⟨sz, SA, sc, st, WA, wq, Q⟩ _ (hP.up hb1).p
  unfold PlV.cells at hcall
  simp only at hcall
  have HB1 := Lib.hid hb1
  clear hb1 hP
  go_enter Tryz.func11, Tryz.ntmps11
  go_upto_region 1 with (fail)
  generalize w.alloc (.cells #[.int .i64 old, .int .i64 t0, .int .i64 t1, .int .i64 t2, .int .i64 t3, .int .i64 t4, .int .i64 sz, .slice SA st.length sc, .slice WA Q.length wq, .slice TA tl.length tc] 32) = w1 at *
  generalize hT : totS Q = T at *
  have HT := Lib.hid hT
  clear hT
  have c0 : w1.cell? ⟨w.heap.size, 6, none⟩ = some (.int .i64 sz) := cell_of_row _ _ 6 _ 32 (0, 0) HX1.out
  have c1 : w1.cell? ⟨w.heap.size, 7, none⟩ = some (.slice SA st.length sc) := cell_of_row _ _ 7 _ 32 (0, 0) HX1.out
  have c2 : w1.cell? ⟨w.heap.size, 8, none⟩ = some (.slice WA Q.length wq) := cell_of_row _ _ 8 _ 32 (0, 0) HX1.out
  go_wp2_with fail
  refine hcall.mono ?_
  rintro e w2 ⟨rfl, hb⟩
  have HB2 := Lib.hid (HB1.out.trans (hb.mono HB1.out.size))
  have HX2 := Lib.hid ((hb.block _ (Array.getElem?_eq_some_iff.1 HX1.out).1).trans HX1.out)
  clear hb hcall c0 c1 c2 HX1 HB1
  have c1 : w2.cell? ⟨w.heap.size, 7, none⟩ = some (.slice SA st.length sc) := cell_of_row _ _ 7 _ 32 (0, 0) HX2.out
  have c2 : w2.cell? ⟨w.heap.size, 8, none⟩ = some (.slice WA Q.length wq) := cell_of_row _ _ 8 _ 32 (0, 0) HX2.out
  by_cases h1 : 200 < T
  · go_wp2_with fail
    go_ret
    exact ⟨⟨true, rfl, fun h => by cases h⟩, HB2.out⟩
  by_cases h2 : 200 < Q.length
  · have h2' : (200 : Int) < (Q.length : Int) := by omega
    go_wp2_with fail
    go_ret
    exact ⟨⟨true, rfl, fun h => by cases h⟩, HB2.out⟩
  have h2' : ¬ (200 : Int) < (Q.length : Int) := by omega
  by_cases h3 : 60 < st.length
  · have h3' : (60 : Int) < (st.length : Int) := by omega
    go_wp2_with fail
    go_ret
    exact ⟨⟨true, rfl, fun h => by cases h⟩, HB2.out⟩
  have h3' : ¬ (60 : Int) < (st.length : Int) := by omega
  go_wp2_with fail
  go_ret
  exact ⟨⟨_, rfl, fun _ => ⟨by omega, by omega, by rw [HT.out]; omega⟩⟩, HB2.out⟩
end Go.Proofs.YtblibmalommdkaaGreat
