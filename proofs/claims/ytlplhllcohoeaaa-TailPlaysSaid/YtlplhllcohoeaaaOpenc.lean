/-
  How a slice of calls that came in is opened to its cells.
-/
import Derived.Test.YtlplhllcohoeaaaOpena
import Derived.Test.YtlplhllcohoeaaaLawp
import Derived.SizedLaws
namespace Go.Proofs.Ytlplhllcohoeaaa
open Go.ChangeShapes Go.WideShapes Go.Deep Go.RowKit
section
variable {H : Type} {enc : TypeId × Value → H} {P : Program} {w : World} {base : Nat} {spare : Nat → Bool} {held : Bool}
/-- A slice of structs of one-cell fields, opened to its cells (after the guide's block for such slices). -/
theorem open_slice_fields {t e : TypeId} {fs : Array Field} {fuel : Nat} {cs : List Value} {x : DataW H × List MemPlace} (ht : P.underlying t = some (.slice e)) (he : P.underlying e = some (.struct fs))
    (hone : oneCellFields P fs = true) (hC : P.cellsOf e = fs.size) (h : DataW.trod enc P w base spare held fuel t cs = some x) :
    (cs = [.slice none 0 0] ∧ x = (.nil, [])) ∨
    ∃ (a : Addr) (len cap m : Nat) (D : Nat → DataW H) (Pl : Nat → List MemPlace), cs = [.slice (some a) len cap] ∧ base ≤ a.block ∧ len ≤ cap ∧ cap ≤ maxLen ∧ m = (if spare a.block then cap else len) ∧
      x = (.slice ((List.range len).map D) ((List.range (m - len)).map fun j => D (len + j)), MemPlace.row a (m * fs.size) ++ (List.range m).flatMap Pl) ∧
      ∀ i, i < m → ∃ (ys : List (DataW H × List MemPlace)) (n : Nat), D i = .agg (ys.map (·.1)) ∧ Pl i = ys.flatMap (·.2) ∧ ys.length = fs.size ∧
        ∀ (j : Nat) (f : Field), fs[j]? = some f → ∃ (v : Value) (y : DataW H × List MemPlace), w.cell? (a.add (i * fs.size + j)) = some v ∧ ys[j]? = some y ∧ DataW.trod enc P w base spare held n f.type [v] = some y := by
  rcases open_slice ht h with h0 | ⟨a, len, cap, m, n, D, Pl, hcs, hb, hl, hm, hmm, hx, hi⟩
  · exact .inl h0
  · refine .inr ⟨a, len, cap, m, D, Pl, hcs, hb, hl, hm, hmm, by rw [hC] at hx; exact hx, fun i him => ?_⟩
    obtain ⟨cs', hc, ht'⟩ := hi i him
    rw [hC] at hc
    obtain ⟨ys, n', hn', hy, hlen, hyl, hf⟩ := DataW.trod_struct he ht'
    obtain ⟨_, hcl, hat⟩ := World.cells?_some hc
    simp only [Prod.mk.injEq] at hy
    refine ⟨ys, n', hy.1, hy.2, hyl, fun j f hj => ?_⟩
    obtain ⟨ho, hk⟩ := hone_of hone j f hj
    have hjl : j < fs.size := (Array.getElem?_eq_some_iff.1 hj).1
    have hcell := hat j hjl
    have hv : cs'[j]? = some (cs'[j]'(by omega)) := List.getElem?_eq_getElem (by omega)
    have h1 := hf j f hj
    rw [ho, hk] at h1
    have hone' : (cs'.drop j).take 1 = [cs'[j]'(by omega)] := by
      rw [List.drop_eq_getElem_cons (by omega)]
      rfl
    rw [hone'] at h1
    have hys : ys[j]? = some (ys[j]'(by omega)) := List.getElem?_eq_getElem (by omega)
    refine ⟨_, _, ?_, hys, h1.trans hys⟩
    rw [← Go.Deep.add_add, hcell, hv]
end
theorem choose_list {α : Type} (n : Nat) (Q : Nat → α → Prop) (h : ∀ i, i < n → ∃ x, Q i x) : ∃ l : List α, l.length = n ∧ ∀ k x, l[k]? = some x → Q k x := by
  induction n with
  | zero => exact ⟨[], rfl, fun k x hx => by simp at hx⟩
  | succ n ih =>
    obtain ⟨l, hl, hq⟩ := ih (fun i hi => h i (by omega))
    obtain ⟨x, hx⟩ := h n (by omega)
    refine ⟨l ++ [x], by simp [hl], fun k y hy => ?_⟩
    by_cases hk : k < l.length
    · rw [List.getElem?_append_left hk] at hy
      exact hq k y hy
    · rw [List.getElem?_append_right (by omega)] at hy
      have e : k - l.length = 0 := by
        by_cases h0 : k - l.length = 0
        · exact h0
        · rw [List.getElem?_eq_none (by simp; omega)] at hy; cases hy
      rw [e] at hy
      simp at hy; subst hy
      have : k = n := by omega
      subst this
      exact hx
/-- The cells of a slice of numbers. -/
theorem cells_nums {H : Type} {enc : TypeId × Value → H} {W : World} {base : Nat} {spare : Nat → Bool} {held : Bool} {fuel : Nat} {v : Value} {x : DataW H × List MemPlace} (h : DataW.trod enc Try.prog W base spare held fuel 51 [v] = some x) :
    ∃ A len cap, ∃ l : List Int, v = .slice A len cap ∧ l.length = len ∧ len ≤ 9223372036854775807 ∧ RdI W W.heap.size A l ∧ (A = none → len = 0 ∧ cap = 0) := by
  rcases open_ints Try.underlying51 Try.underlying3 (by kernel_rfl) h with ⟨hcs, _⟩ | ⟨a, len, cap, zs, hcs, _, hl, hm, hz, _, hcell, hwz⟩
  · injection hcs with hv
    exact ⟨none, 0, 0, [], hv, rfl, by omega, RdI.nil _ _ _, fun _ => ⟨rfl, rfl⟩⟩
  · injection hcs with hv
    have hzl : len ≤ zs.length := by rw [hz]; split <;> omega
    unfold maxLen at hm
    refine ⟨some a, len, cap, zs.take len, hv, by rw [List.length_take, Nat.min_eq_left hzl], by omega, ?_, fun h => by cases h⟩
    intro k u hu
    rw [List.getElem?_take] at hu
    split at hu
    · have hk := (List.getElem?_eq_some_iff.1 hu).1
      have h0 := hcell 0 (by omega)
      obtain ⟨b, off, rfl⟩ := add_off h0
      have hc := hcell k hk
      rw [add_lit'] at hc
      refine ⟨b, off, rfl, World.block_lt_of_cell? W _ hc, ?_⟩
      rw [hc, List.getD_eq_getElem?_getD, hu]; rfl
    · cases hu
/-- A slice of calls that came in reads as a list. -/
theorem open_calls {H : Type} {enc : TypeId × Value → H} {W : World} {A : Option Addr} {len cap : Nat} {d : DataW H} {p : List MemPlace} (h : DataW.Trod enc Try.prog W 0 (fun _ => true) true 45 (.slice A len cap) d p) :
    ∃ l : List CallV, l.length = len ∧ RdC W W.heap.size A l ∧ len ≤ 9223372036854775807 := by
  obtain ⟨fuel, hf⟩ := h
  rcases open_slice_fields Try.underlying45 Try.underlying53 (by kernel_rfl) (by kernel_rfl) hf with ⟨hcs, _⟩ | ⟨a, len', cap', m, D, Pl, hcs, _, hl, hm, hmm, _, hi⟩
  · simp [Value.cells] at hcs
    obtain ⟨rfl, rfl, rfl⟩ := hcs
    exact ⟨[], rfl, fun k s hs => by simp at hs, by omega⟩
  · simp [Value.cells] at hcs
    obtain ⟨rfl, rfl, rfl⟩ := hcs
    simp at hmm
    subst hmm
    unfold maxLen at hm
    obtain ⟨l, hlen, hq⟩ := choose_list len (fun k (s : CallV) => W.cell? (a.add (k * 5 + 0)) = some (.int .i64 s.kind) ∧ W.cell? (a.add (k * 5 + 1)) = some (.int .i64 s.at_) ∧ W.cell? (a.add (k * 5 + 2)) = some (.int .i64 s.n) ∧ W.cell? (a.add (k * 5 + 3)) = some (.slice s.A s.m s.c) ∧ W.cell? (a.add (k * 5 + 4)) = some (.slice s.PA s.pm s.pc) ∧ CallIn W.heap.size W s.at_ s.n s.A s.m s.c s.b s.PA s.pm s.xs) (by
      intro i hil
      obtain ⟨ys, n, _, _, _, hfl⟩ := hi i (by omega)
      obtain ⟨v0, y0, c0, _, t0⟩ := hfl 0 _ rfl
      obtain ⟨v1, y1, c1, _, t1⟩ := hfl 1 _ rfl
      obtain ⟨v2, y2, c2, _, t2⟩ := hfl 2 _ rfl
      obtain ⟨v3, y3, c3, _, t3⟩ := hfl 3 _ rfl
      obtain ⟨v4, y4, c4, _, t4⟩ := hfl 4 _ rfl
      obtain ⟨x0, e0, _, w0⟩ := DataW.trod_int Try.underlying3 t0
      obtain ⟨x1, e1, _, w1⟩ := DataW.trod_int Try.underlying3 t1
      obtain ⟨x2, e2, _, w2⟩ := DataW.trod_int Try.underlying3 t2
      obtain ⟨A, c, l, rfl, g1, g2, g3, g4, _⟩ := cells_bytes t3
      obtain ⟨L, xn, cl, xl, rfl, k1, k2, k3, k5⟩ := cells_nums t4
      simp at e0 e1 e2
      subst e0; subst e1; subst e2
      exact ⟨⟨x0, x1, x2, A, l.length, c, l, L, xn, cl, xl⟩, c0, c1, c2, c3, c4, bounds_i64 w1, bounds_i64 w2, rfl, g1, fun e => ⟨Nat.le_zero.1 (by have h5 := g4 e; rw [h5] at g2; exact g2), g4 e⟩, k1, k2, k3⟩)
    refine ⟨l, hlen, ?_, by omega⟩
    intro k s hs
    obtain ⟨c0, c1, c2, c3, c4, r⟩ := hq k s hs
    have hk := (List.getElem?_eq_some_iff.1 hs).1
    obtain ⟨s0, hs0⟩ := get_some l 0 (by omega)
    obtain ⟨b, off, rfl⟩ := add_off (hq 0 s0 hs0).1
    rw [add_lit'] at c0 c1 c2 c3 c4
    have hb : b < W.heap.size := World.block_lt_of_cell? W _ c0
    exact ⟨b, off, rfl, hb, by simpa using c0, by rw [Nat.add_assoc]; exact c1, by rw [Nat.add_assoc]; exact c2, by rw [Nat.add_assoc]; exact c3, by rw [Nat.add_assoc]; exact c4, r⟩
end Go.Proofs.Ytlplhllcohoeaaa
