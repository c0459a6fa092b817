/-
  How a slice of changes that came in is opened to its cells.
-/
import Derived.Test.YteceephenfmdoaaOpena
import Derived.Test.YteceephenfmdoaaLRuns
namespace Go.Proofs.Yteceephenfmdoaa
open Go.ChangeShapes Go.WideShapes Go.Deep Go.RowKit
/-- A slice of changes that came in reads as a list. -/
theorem open_changes {H : Type} {enc : TypeId × Value → H} {W : World} {A : Option Addr} {len cap : Nat} {d : DataW H} {p : List MemPlace} (h : DataW.Trod enc Try.prog W 0 (fun _ => true) true 58 (.slice A len cap) d p) :
    ∃ l : List Chg, l.length = len ∧ RdC W W.heap.size A l ∧ (∀ c ∈ l, I64 c.how ∧ I64 c.wave ∧ I64 c.at_ ∧ I64 c.by_) ∧ len ≤ 9223372036854775807 := by
  obtain ⟨fuel, hf⟩ := h
  rcases open_slice_fields Try.underlying58 Try.underlying62 (by kernel_rfl) (by kernel_rfl) hf with ⟨hcs, _⟩ | ⟨a, len', cap', m, D, Pl, hcs, _, hl, hm, hmm, _, hi⟩
  · simp [Value.cells] at hcs
    obtain ⟨rfl, rfl, rfl⟩ := hcs
    exact ⟨[], rfl, (fun k c hc => by simp at hc), (fun c hc => by simp at hc), by decide⟩
  · simp [Value.cells] at hcs
    obtain ⟨rfl, rfl, rfl⟩ := hcs
    simp at hmm
    obtain ⟨l, hlen, hq⟩ := choose_list len (fun k (c : Chg) => W.cell? (a.add (k * 4 + 0)) = some (.int .i64 c.how) ∧ W.cell? (a.add (k * 4 + 1)) = some (.int .i64 c.wave) ∧ W.cell? (a.add (k * 4 + 2)) = some (.int .i64 c.at_) ∧ W.cell? (a.add (k * 4 + 3)) = some (.int .i64 c.by_) ∧ I64 c.how ∧ I64 c.wave ∧ I64 c.at_ ∧ I64 c.by_) (by
      intro i hil
      obtain ⟨ys, n, _, _, _, hfl⟩ := hi i (by omega)
      obtain ⟨v0, y0, c0, _, t0⟩ := hfl 0 _ rfl
      obtain ⟨v1, y1, c1, _, t1⟩ := hfl 1 _ rfl
      obtain ⟨v2, y2, c2, _, t2⟩ := hfl 2 _ rfl
      obtain ⟨v3, y3, c3, _, t3⟩ := hfl 3 _ rfl
      obtain ⟨x0, e0, _, w0⟩ := DataW.trod_int Try.underlying3 t0
      obtain ⟨x1, e1, _, w1⟩ := DataW.trod_int Try.underlying3 t1
      obtain ⟨x2, e2, _, w2⟩ := DataW.trod_int Try.underlying3 t2
      obtain ⟨x3, e3, _, w3⟩ := DataW.trod_int Try.underlying3 t3
      simp at e0 e1 e2 e3
      subst e0; subst e1; subst e2; subst e3
      exact ⟨⟨x0, x1, x2, x3⟩, c0, c1, c2, c3, bounds_i64 w0, bounds_i64 w1, bounds_i64 w2, bounds_i64 w3⟩)
    refine ⟨l, hlen, ?_, ?_, by unfold maxLen at hm; omega⟩
    · intro k s hs
      obtain ⟨c0, c1, c2, c3, _⟩ := hq k s hs
      have hk := (List.getElem?_eq_some_iff.1 hs).1
      obtain ⟨s0, hs0⟩ := Sc.get_some l 0 (by omega)
      obtain ⟨b, off, rfl⟩ := add_offA (hq 0 s0 hs0).1
      rw [add_lit'] at c0 c1 c2 c3
      have hb : b < W.heap.size := World.block_lt_of_cell? W _ c0
      exact ⟨b, off, rfl, hb, by simpa using c0, by rw [Nat.add_assoc]; exact c1, by rw [Nat.add_assoc]; exact c2, by rw [Nat.add_assoc]; exact c3⟩
    · intro s hs
      obtain ⟨k, hk⟩ := List.getElem?_of_mem hs
      exact (hq k s hk).2.2.2.2
end Go.Proofs.Yteceephenfmdoaa
