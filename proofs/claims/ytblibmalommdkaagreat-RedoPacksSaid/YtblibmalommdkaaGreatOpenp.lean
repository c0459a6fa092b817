/-
  How a plan that came in is opened to its cells; how large its rows are.
-/
import Derived.Test.YtblibmalommdkaaGreatOpena
import Derived.Lib.SmallJoins
namespace Go.Proofs.YtblibmalommdkaaGreat
open Go.ChangeShapes Go.WideShapes Go.Deep Go.RowKit
section
variable {H : Type} {enc : TypeId × Value → H} {W : World}
/-- No row of a datum is longer than memory reaches. -/
def Wt {H : Type} (t : TypeId) (d : DataW H) : Prop := ∀ n ∈ DataW.weights Tryz.prog t d, n ≤ reachBytes
theorem weights_mem_all {P : Program} {e : TypeId} : ∀ {l : List (DataW H)} {d : DataW H}, d ∈ l → ∀ n ∈ DataW.weights P e d, n ∈ DataW.weightsAll P e l := by
  intro l
  induction l with
  | nil => intro d h; cases h
  | cons a l ih =>
    intro d h n hn
    simp only [DataW.weightsAll, List.mem_append]
    rcases List.mem_cons.1 h with rfl | h
    · exact .inl hn
    · exact .inr (ih h n hn)
theorem Wt.slice {t e : TypeId} {elems spare : List (DataW H)} (h : Wt t (.slice elems spare)) (hu : Tryz.prog.underlying t = some (.slice e)) : elems.length * Tryz.prog.bytesOf e ≤ reachBytes ∧ ∀ d ∈ elems, Wt e d := by
  refine ⟨?_, fun d hd n hn => h n ?_⟩
  · have h1 := h ((elems.length + spare.length) * Tryz.prog.bytesOf e) (by simp [DataW.weights, hu])
    rw [Nat.add_mul] at h1
    omega
  · simp only [DataW.weights, hu, List.mem_cons, List.mem_append]
    exact .inr (.inl (weights_mem_all hd n hn))
theorem Wt.agg {t : TypeId} {fs : Array Field} {parts : List (DataW H)} (h : Wt t (.agg parts)) (hu : Tryz.prog.underlying t = some (.struct fs)) {j : Nat} {f : Field} {d : DataW H} (hf : fs[j]? = some f) (hd : parts[j]? = some d) : Wt f.type d := by
  intro n hn
  refine h n ?_
  simp only [DataW.weights, hu]
  refine DataW.weights_mem_each (j := j) (t := f.type) ?_ hd n hn
  rw [List.getElem?_map, Array.getElem?_toList, hf]
  rfl
theorem bytes48 : Tryz.prog.bytesOf 80 = 24 := by kernel_rfl
theorem bytes67 : Tryz.prog.bytesOf 74 = 16 := by kernel_rfl
theorem bytes70 : Tryz.prog.bytesOf 78 = 32 := by kernel_rfl
theorem bytes43 : Tryz.prog.bytesOf 75 = 24 := by kernel_rfl
theorem len_of {cs : List Value} {v : Value} (h : cs = [v]) : cs.head? = some v := by rw [h]; rfl
/-- A row of scraps is no longer than memory reaches. -/
theorem scraps_w {fuel : Nat} {A : Option Addr} {len cap : Nat} {x : DataW H × List MemPlace} (hf : DataW.trod enc Tryz.prog W 0 (fun _ => true) true fuel 76 [.slice A len cap] = some x) (hw : Wt 76 x.1) : len * 24 ≤ 140737488355328 := by
  rcases open_slice_fields Tryz.underlying76 Tryz.underlying80 (by kernel_rfl) (by kernel_rfl) hf with ⟨hcs, _⟩ | ⟨a, len', cap', m, D, Pl, hcs, _, hl, hm, hmm, hx, hi⟩
  · injection hcs with hv
    injection hv with _ hn _
    omega
  · injection hcs with hv
    injection hv with _ hn _
    rw [hx] at hw
    have h := (hw.slice Tryz.underlying76).1
    rw [bytes48, List.length_map, List.length_range] at h
    unfold reachBytes at h
    omega
/-- The cells of a row of steps. -/
theorem cells_steps {fuel : Nat} {v : Value} {x : DataW H × List MemPlace} (hf : DataW.trod enc Tryz.prog W 0 (fun _ => true) true fuel 75 [v] = some x) (hw : Wt 75 x.1) :
    ∃ A cap, ∃ l : List StV, v = .slice A l.length cap ∧ WvOk W W.heap.size ⟨A, cap, l⟩ ∧ l.length ≤ 140737488355328 ∧ ∀ s ∈ l, s.parts.length * 24 ≤ 140737488355328 := by
  rcases open_slice_fields Tryz.underlying75 Tryz.underlying78 (by kernel_rfl) (by kernel_rfl) hf with ⟨hcs, _⟩ | ⟨a, len, cap, m, D, Pl, hcs, _, hl, hm, hmm, hx, hi⟩
  · injection hcs with hv
    exact ⟨none, 0, [], hv, ⟨fun k s hs => by simp at hs, by simp, fun _ => ⟨rfl, rfl⟩⟩, by simp, fun s hs => by cases hs⟩
  · injection hcs with hv
    simp at hmm
    rw [hx] at hw
    have hws := (hw.slice Tryz.underlying75).2
    have hwl := (hw.slice Tryz.underlying75).1
    rw [bytes70, List.length_map, List.length_range] at hwl
    unfold reachBytes at hwl
    obtain ⟨l, hlen, hq⟩ := choose_list len (fun k (s : StV) => W.cell? (a.add (k * 2 + 0)) = some (.int .i64 s.blk) ∧ W.cell? (a.add (k * 2 + 1)) = some (.slice s.A s.parts.length s.c) ∧ StOk W W.heap.size s ∧ s.parts.length * 24 ≤ 140737488355328) (by
      intro i hil
      obtain ⟨ys, n, hD, _, hyl, hfl⟩ := hi i (by omega)
      obtain ⟨v0, y0, c0, _, t0⟩ := hfl 0 _ rfl
      obtain ⟨v1, y1, c1, g1, t1⟩ := hfl 1 _ rfl
      obtain ⟨x0, e0, _, w0⟩ := DataW.trod_int Tryz.underlying3 t0
      simp at e0
      subst e0
      obtain ⟨A, len', cap', pl, rfl, q1, q2, q3, q4, q5, _⟩ := cells_scraps t1
      have hwd : Wt 78 (D i) := hws _ (List.mem_map.2 ⟨i, List.mem_range.2 hil, rfl⟩)
      rw [hD] at hwd
      have h24 := scraps_w t1 (hwd.agg Tryz.underlying78 (j := 1) rfl (by rw [List.getElem?_map, g1]; rfl))
      unfold maxLen at q5
      subst q2
      exact ⟨⟨x0, A, cap', pl⟩, c0, c1, ⟨q3, ⟨q4, by omega⟩, q1, bounds_i64 w0⟩, h24⟩)
    unfold maxLen at hm
    refine ⟨some a, cap, l, by rw [hlen]; exact hv, ⟨fun k s hs => ?_, ⟨by rw [hlen]; exact hl, by omega⟩, fun h => by cases h⟩, by omega, fun s hs => ?_⟩
    · obtain ⟨c0, c1, hok, _⟩ := hq k s hs
      have hk : k < l.length := (List.getElem?_eq_some_iff.1 hs).1
      obtain ⟨s0, hs0⟩ := Sc.get_some l 0 (by omega)
      obtain ⟨b, off, rfl⟩ := add_off (hq 0 s0 hs0).1
      rw [add_lit'] at c0 c1
      exact ⟨b, off, rfl, World.block_lt_of_cell? W _ c0, by simpa using c0, by rw [Nat.add_assoc]; exact c1, hok⟩
    · obtain ⟨k, hk⟩ := List.getElem?_of_mem hs
      exact (hq k s hk).2.2.2
theorem cells_one_of {a : Addr} {cs : List Value} (h : W.cells? 0 a 1 = some cs) : ∃ v, cs = [v] ∧ W.cell? (a.add 0) = some v := by
  obtain ⟨_, hl, hat⟩ := World.cells?_some h
  match cs, hl with
  | [v], _ => exact ⟨v, rfl, hat 0 (by omega)⟩
/-- The cells of a row of waves. -/
theorem cells_waves {fuel : Nat} {v : Value} {x : DataW H × List MemPlace} (hf : DataW.trod enc Tryz.prog W 0 (fun _ => true) true fuel 28 [v] = some x) (hw : Wt 28 x.1) :
    ∃ A cap, ∃ l : List WvV, v = .slice A l.length cap ∧ RdWv W W.heap.size A l ∧ (l.length ≤ cap ∧ cap ≤ 9223372036854775807) ∧ (A = none → l.length = 0 ∧ cap = 0) ∧ ∀ v ∈ l, v.steps.length ≤ 140737488355328 ∧ ∀ s ∈ v.steps, s.parts.length * 24 ≤ 140737488355328 := by
  rcases open_slice Tryz.underlying28 hf with ⟨hcs, _⟩ | ⟨a, len, cap, m, n, D, Pl, hcs, _, hl, hm, hmm, hx, hi⟩
  · injection hcs with hv
    exact ⟨none, 0, [], hv, fun k s hs => by simp at hs, by simp, fun _ => ⟨rfl, rfl⟩, fun s hs => by cases hs⟩
  · injection hcs with hv
    simp at hmm
    rw [hx] at hw
    have hws := (hw.slice Tryz.underlying28).2
    have hC : Tryz.prog.cellsOf 75 = 1 := by kernel_rfl
    obtain ⟨l, hlen, hq⟩ := choose_list len (fun k (u : WvV) => W.cell? (a.add k) = some (.slice u.A u.steps.length u.c) ∧ WvOk W W.heap.size u ∧ u.steps.length ≤ 140737488355328 ∧ ∀ s ∈ u.steps, s.parts.length * 24 ≤ 140737488355328) (by
      intro i hil
      obtain ⟨cs', hc, ht⟩ := hi i (by omega)
      rw [hC] at hc
      obtain ⟨u, rfl, hu⟩ := cells_one_of hc
      have hwd : Wt 75 (D i) := hws _ (List.mem_map.2 ⟨i, List.mem_range.2 hil, rfl⟩)
      obtain ⟨A, cap', st, rfl, h1, h2, h3⟩ := cells_steps ht hwd
      refine ⟨⟨A, cap', st⟩, ?_, h1, h2, h3⟩
      rw [Nat.mul_one, Go.Deep.add_add, Nat.add_zero] at hu
      exact hu)
    unfold maxLen at hm
    refine ⟨some a, cap, l, by rw [hlen]; exact hv, fun k s hs => ?_, ⟨by omega, by omega⟩, (fun h => by cases h), fun s hs => ?_⟩
    · obtain ⟨c0, hok, _⟩ := hq k s hs
      have hk := (List.getElem?_eq_some_iff.1 hs).1
      obtain ⟨s0, hs0⟩ := Sc.get_some l 0 (by omega)
      obtain ⟨b, off, rfl⟩ := add_off (hq 0 s0 hs0).1
      rw [add_lit'] at c0
      exact ⟨b, off, rfl, World.block_lt_of_cell? W _ c0, c0, hok⟩
    · obtain ⟨k, hk⟩ := List.getElem?_of_mem hs
      exact (hq k s hk).2.2
/-- The cells of a row of ranges. -/
theorem cells_ranges {fuel : Nat} {v : Value} {x : DataW H × List MemPlace} (hf : DataW.trod enc Tryz.prog W 0 (fun _ => true) true fuel 27 [v] = some x) :
    ∃ A cap, ∃ l : List R, v = .slice A l.length cap ∧ Rd W W.heap.size A l ∧ (l.length ≤ cap ∧ cap ≤ 9223372036854775807) ∧ (A = none → l.length = 0 ∧ cap = 0) ∧ IR l := by
  rcases open_slice_fields Tryz.underlying27 Tryz.underlying74 (by kernel_rfl) (by kernel_rfl) hf with ⟨hcs, _⟩ | ⟨a, len, cap, m, D, Pl, hcs, _, hl, hm, hmm, hx, hi⟩
  · injection hcs with hv
    exact ⟨none, 0, [], hv, fun k s hs => by simp at hs, by simp, fun _ => ⟨rfl, rfl⟩, fun s hs => by cases hs⟩
  · injection hcs with hv
    simp at hmm
    obtain ⟨l, hlen, hq⟩ := choose_list len (fun k (s : R) => W.cell? (a.add (k * 2 + 0)) = some (.int .i64 s.1) ∧ W.cell? (a.add (k * 2 + 1)) = some (.int .i64 s.2) ∧ I64 s.1 ∧ I64 s.2) (by
      intro i hil
      obtain ⟨ys, n, hD, _, hyl, hfl⟩ := hi i (by omega)
      obtain ⟨v0, y0, c0, _, t0⟩ := hfl 0 _ rfl
      obtain ⟨v1, y1, c1, _, t1⟩ := hfl 1 _ rfl
      obtain ⟨x0, e0, _, w0⟩ := DataW.trod_int Tryz.underlying3 t0
      obtain ⟨x1, e1, _, w1⟩ := DataW.trod_int Tryz.underlying3 t1
      simp at e0 e1
      subst e0; subst e1
      exact ⟨(x0, x1), c0, c1, bounds_i64 w0, bounds_i64 w1⟩)
    unfold maxLen at hm
    refine ⟨some a, cap, l, by rw [hlen]; exact hv, fun k s hs => ?_, ⟨by omega, by omega⟩, (fun h => by cases h), fun s hs => ?_⟩
    · obtain ⟨c0, c1, _⟩ := hq k s hs
      have hk := (List.getElem?_eq_some_iff.1 hs).1
      obtain ⟨s0, hs0⟩ := Sc.get_some l 0 (by omega)
      obtain ⟨b, off, rfl⟩ := add_off (hq 0 s0 hs0).1
      rw [add_lit'] at c0 c1
      exact ⟨b, off, rfl, World.block_lt_of_cell? W _ c0, by simpa using c0, by rw [Nat.add_assoc]; exact c1⟩
    · obtain ⟨k, hk⟩ := List.getElem?_of_mem hs
      exact (hq k s hk).2.2
theorem wt_of {ts : List TypeId} {ds : List (DataW H)} (hsz : (DataW.weightsEach Tryz.prog ts ds).all (· ≤ reachBytes) = true) {j : Nat} {t : TypeId} {d : DataW H} (ht : ts[j]? = some t) (hd : ds[j]? = some d) : Wt t d := fun n hn => by
  have h := List.all_eq_true.1 hsz n (DataW.weights_mem_each ht hd n hn)
  simpa using h
set_option maxRecDepth 100000 in
/-- A plan that came in. -/
theorem open_plan {base : Nat} {v : Value} {d : DataW H} {p : List MemPlace} (hv : Value.okWide Tryz.prog W .any base 30 v) (h : DataW.Trod enc Tryz.prog W 0 (fun _ => true) true 30 v d p) (hw : Wt 30 d) :
    ∃ q : PlV, v = .agg q.cells ∧ PlOk W W.heap.size q ∧ ∀ v ∈ q.waves, v.steps.length ≤ 140737488355328 ∧ ∀ s ∈ v.steps, s.parts.length * 24 ≤ 140737488355328 := by
  obtain ⟨v0, v1, v2, y0, y1, y2, m, rfl, rfl, _, h0, h1, h2⟩ := Go.Joins.open_agg3 Tryz.underlying30 (by kernel_rfl) (by kernel_rfl) hv h
  obtain ⟨x0, e0, _, w0⟩ := DataW.trod_int Tryz.underlying3 h0
  simp at e0
  subst e0
  obtain ⟨SA, sc, stash, rfl, s1, s2, s3, s4⟩ := cells_ranges h1
  obtain ⟨WA, wc, waves, rfl, q1, q2, q3, q4⟩ := cells_waves h2 (hw.agg Tryz.underlying30 (j := 2) rfl rfl)
  exact ⟨⟨x0, SA, sc, stash, WA, wc, waves⟩, rfl, ⟨s1, s2, s3, s4, q1, q2, q3, bounds_i64 w0⟩, q4⟩
end
end Go.Proofs.YtblibmalommdkaaGreat
