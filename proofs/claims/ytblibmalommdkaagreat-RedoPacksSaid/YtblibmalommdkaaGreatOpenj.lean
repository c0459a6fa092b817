/-
  How a journal that came in is opened to its cells.
-/
import Derived.Test.YtblibmalommdkaaGreatOpenp
import Derived.Test.YtblibmalommdkaaGreatEOpena
import Derived.Test.YtblibmalommdkaaGreatJSpec
namespace Go.Proofs.YtblibmalommdkaaGreat
open Go.ChangeShapes Go.WideShapes Go.Deep Go.RowKit
theorem array10 {α : Type} {cs : Array α} (h : cs.size = 10) : ∃ c0 c1 c2 c3 c4 c5 c6 c7 c8 c9, cs = #[c0, c1, c2, c3, c4, c5, c6, c7, c8, c9] := by
  obtain ⟨l⟩ := cs
  match l, h with
  | [c0, c1, c2, c3, c4, c5, c6, c7, c8, c9], _ => exact ⟨c0, c1, c2, c3, c4, c5, c6, c7, c8, c9, rfl⟩
theorem bytes5 : Tryz.prog.bytesOf 5 = 1 := by kernel_rfl
theorem cellsN26 : Tryz.prog.cellsOf 26 = 5 := by kernel_rfl
theorem cellsN30 : Tryz.prog.cellsOf 30 = 3 := by kernel_rfl
theorem cellsN22 : Tryz.prog.cellsOf 22 = 1 := by kernel_rfl
theorem cellsN27 : Tryz.prog.cellsOf 27 = 1 := by kernel_rfl
theorem cellsN28 : Tryz.prog.cellsOf 28 = 1 := by kernel_rfl
theorem cellsN3 : Tryz.prog.cellsOf 3 = 1 := by kernel_rfl
theorem cellsN32 : Tryz.prog.cellsOf 32 = 10 := by kernel_rfl
section
variable {H : Type} {enc : TypeId × Value → H} {W : World}
/-- A row of bytes is no longer than memory reaches. -/
theorem bytes_w {fuel : Nat} {A : Option Addr} {len cap : Nat} {x : DataW H × List MemPlace} (hf : DataW.trod enc Tryz.prog W 0 (fun _ => true) true fuel 22 [.slice A len cap] = some x) (hw : Wt 22 x.1) : len ≤ 140737488351232 := by
  rcases open_ints Tryz.underlying22 Tryz.underlying5 (by kernel_rfl) hf with ⟨hcs, hx⟩ | ⟨a, len', cap', zs, hcs, _, hl, hm, hz, hx, _, _⟩
  · injection hcs with hv
    injection hv with _ hn _
    omega
  · injection hcs with hv
    injection hv with _ hn _
    have hzl : len' ≤ zs.length := by rw [hz]; split <;> omega
    rw [hx] at hw
    have h := (hw.slice Tryz.underlying22).1
    rw [bytes5] at h
    simp [lits] at h
    unfold reachBytes at h
    omega
set_option maxRecDepth 100000 in
/-- A superblock's cells. -/
theorem cells_sup {fuel : Nat} {c0 c1 c2 c3 c4 : Value} {x : DataW H × List MemPlace} (hf : DataW.trod enc Tryz.prog W 0 (fun _ => true) true fuel 26 [c0, c1, c2, c3, c4] = some x) :
    ∃ t0 t1 t2 t3 t4 : Int, c0 = .int .i64 t0 ∧ c1 = .int .i64 t1 ∧ c2 = .int .i64 t2 ∧ c3 = .int .i64 t3 ∧ c4 = .int .i64 t4 := by
  obtain ⟨xs, n, _, rfl, hl, hlen, h⟩ := DataW.trod_struct Tryz.underlying26 hf
  have one : ∀ (i : Nat) (c : Value) (y : DataW H × List MemPlace), DataW.trod enc Tryz.prog W 0 (fun _ => true) true n 3 [c] = some y → ∃ t : Int, c = .int .i64 t := fun i c y hy => by
    obtain ⟨t, e, _, _⟩ := DataW.trod_int Tryz.underlying3 hy
    simp at e
    exact ⟨t, e⟩
  match xs, hlen with
  | [y0, y1, y2, y3, y4], _ =>
    have h0 := h 0 _ rfl; have h1 := h 1 _ rfl; have h2 := h 2 _ rfl; have h3 := h 3 _ rfl; have h4 := h 4 _ rfl
    simp [cellsN3] at h0 h1 h2 h3 h4
    obtain ⟨t0, e0⟩ := one 0 _ _ h0
    obtain ⟨t1, e1⟩ := one 1 _ _ h1
    obtain ⟨t2, e2⟩ := one 2 _ _ h2
    obtain ⟨t3, e3⟩ := one 3 _ _ h3
    obtain ⟨t4, e4⟩ := one 4 _ _ h4
    exact ⟨t0, t1, t2, t3, t4, e0, e1, e2, e3, e4⟩
set_option maxRecDepth 100000 in
/-- A plan's cells. -/
theorem cells_plan {fuel : Nat} {c0 c1 c2 : Value} {x : DataW H × List MemPlace} (hf : DataW.trod enc Tryz.prog W 0 (fun _ => true) true fuel 30 [c0, c1, c2] = some x) (hw : Wt 30 x.1) :
    ∃ q : PlV, c0 = .int .i64 q.size ∧ c1 = .slice q.SA q.stash.length q.sc ∧ c2 = .slice q.WA q.waves.length q.wc ∧ PlOk W W.heap.size q ∧ ∀ v ∈ q.waves, v.steps.length ≤ 140737488355328 ∧ ∀ s ∈ v.steps, s.parts.length * 24 ≤ 140737488355328 := by
  obtain ⟨xs, n, _, rfl, hl, hlen, h⟩ := DataW.trod_struct Tryz.underlying30 hf
  match xs, hlen with
  | [y0, y1, y2], _ =>
    have h0 := h 0 _ rfl; have h1 := h 1 _ rfl; have h2 := h 2 _ rfl
    simp [cellsN3, cellsN27, cellsN28] at h0 h1 h2
    obtain ⟨x0, e0, _, w0⟩ := DataW.trod_int Tryz.underlying3 h0
    simp at e0
    subst e0
    obtain ⟨SA, sc, stash, rfl, s1, s2, s3, s4⟩ := cells_ranges h1
    obtain ⟨WA, wc, waves, rfl, q1, q2, q3, q4⟩ := cells_waves h2 (hw.agg Tryz.underlying30 (j := 2) rfl rfl)
    exact ⟨⟨x0, SA, sc, stash, WA, wc, waves⟩, rfl, rfl, rfl, ⟨s1, s2, s3, s4, q1, q2, q3, bounds_i64 w0⟩, q4⟩
set_option maxRecDepth 100000 in
/-- A journal that came in. -/
theorem open_jour {base : Nat} {v : Value} {d : DataW H} {p : List MemPlace} (hv : Value.okWide Tryz.prog W .any base 32 v) (h : DataW.Trod enc Tryz.prog W 0 (fun _ => true) true 32 v d p) (hw : Wt 32 d) :
    ∃ q : JnV, v = .agg q.cells ∧ JnOk W W.heap.size q ∧ Re.Bytes q.stash ∧ q.stash.length + 3 ≤ 140737488355328 ∧ ∀ v ∈ q.p.waves, v.steps.length ≤ 140737488355328 ∧ ∀ s ∈ v.steps, s.parts.length * 24 ≤ 140737488355328 := by
  obtain ⟨cs, rfl, hsz⟩ := okWide_struct Tryz.underlying32 hv
  obtain ⟨c0, c1, c2, c3, c4, c5, c6, c7, c8, c9, rfl⟩ := array10 (hsz.trans cellsN32)
  obtain ⟨fuel, hf⟩ := h
  obtain ⟨xs, n, _, hx, hl, hlen, h⟩ := DataW.trod_struct Tryz.underlying32 hf
  match xs, hlen with
  | [y0, y1, y2, y3], _ =>
    injection hx with hd _
    subst hd
    have h0 := h 0 _ rfl; have h1 := h 1 _ rfl; have h2 := h 2 _ rfl; have h3 := h 3 _ rfl
    simp [cellsN3, cellsN26, cellsN30, cellsN22, Value.cells] at h0 h1 h2 h3
    obtain ⟨old, e0, _, w0⟩ := DataW.trod_int Tryz.underlying3 h0
    simp at e0
    subst e0
    obtain ⟨t0, t1, t2, t3, t4, rfl, rfl, rfl, rfl, rfl⟩ := cells_sup h1
    obtain ⟨q, rfl, rfl, rfl, hq, hqx⟩ := cells_plan h2 (hw.agg Tryz.underlying32 (j := 2) rfl rfl)
    obtain ⟨A, c, l, rfl, r1, r2, r3, r4, r5⟩ := Re.cells_bytes h3
    have hbw := bytes_w h3 (hw.agg Tryz.underlying32 (j := 3) rfl rfl)
    unfold maxLen at r3
    exact ⟨⟨old, ⟨t0, t1, t2, t3, t4⟩, q, A, c, l⟩, rfl, ⟨hq, r1, ⟨r2, by omega⟩, fun hA => ⟨by have := r4 hA; show l.length = 0; omega, r4 hA⟩, bounds_i64 w0⟩, Re.wf_byte r5, by show l.length + 3 ≤ _; omega, hqx⟩
end
end Go.Proofs.YtblibmalommdkaaGreat
