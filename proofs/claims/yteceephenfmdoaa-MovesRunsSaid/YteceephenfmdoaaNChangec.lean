/-
  octavolaw20's changed: a plan with a change reads as some plan, hardly larger: both halves joined.
-/
import Derived.Test.YteceephenfmdoaaNChange
import Derived.Test.YteceephenfmdoaaNChangeb
namespace Go.Proofs.Yteceephenfmdoaa
open Go.RowKit
theorem changed_any (p : PlV) (how wave at_ by_ : Int) (M : Nat) (w : World) (hP : PlOk w w.heap.size p) (hS : Sml p M 64) (hM : M ≤ 1000) (h0 : I64 how) (h1 : I64 wave) (h2 : I64 at_) (h3 : I64 by_) :
    Calls Try.prog 31 #[.agg p.cells, .agg #[.int .i64 how, .int .i64 wave, .int .i64 at_, .int .i64 by_]] w fun e w' => (∃ q0 : PlV, e = .returned (.agg q0.cells) ∧ ∀ wf : World, w'.heap.size ≤ wf.heap.size → (∀ b, w.heap.size ≤ b → wf.heap[b]? = w'.heap[b]?) → ∃ q : PlV, PlOk wf wf.heap.size q ∧ q.cells = q0.cells ∧ Sml q (M + 1) 64) ∧ Below w.heap.size w w' := by
  by_cases h : how = 3
  · exact changed_three p how wave at_ by_ M w hP hS hM h0 h h1 h2 h3
  · exact changed_rest p how wave at_ by_ M w hP hS hM h0 h h1 h2 h3
end Go.Proofs.Yteceephenfmdoaa
