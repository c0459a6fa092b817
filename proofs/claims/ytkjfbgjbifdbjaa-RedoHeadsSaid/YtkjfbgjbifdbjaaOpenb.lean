/-
  How a head that came in is opened to its fields.
-/
import Derived.Test.YtkjfbgjbifdbjaaOpena
import Derived.Lib.SmallJoins
namespace Go.Proofs.Ytkjfbgjbifdbjaa
open Go.ChangeShapes Go.WideShapes Go.Deep Go.RowKit
theorem open_head {H : Type} {enc : TypeId × Value → H} {W : World} {base : Nat} {v : Value} {d : DataW H} {p : List MemPlace} (hv : Value.okWide Try.prog W .any base 24 v) (h : DataW.Trod enc Try.prog W 0 (fun _ => true) true 24 v d p) :
    ∃ (wave : Int) (ready : Bool) (body sum : Int), v = .agg #[.int .i64 wave, .bool ready, .int .i64 body, .int .u32 sum] ∧ (-9223372036854775808 ≤ wave ∧ wave ≤ 9223372036854775807) ∧ (-9223372036854775808 ≤ body ∧ body ≤ 9223372036854775807) ∧ (0 ≤ sum ∧ sum ≤ 4294967295) := by
  obtain ⟨v0, v1, v2, v3, y0, y1, y2, y3, m, rfl, _, _, h0, h1, h2, h3⟩ := Go.Joins.open_agg4 Try.underlying24 (by kernel_rfl) (by kernel_rfl) hv h
  obtain ⟨x0, e0, _, w0⟩ := DataW.trod_int Try.underlying3 h0
  obtain ⟨x1, e1, _⟩ := DataW.trod_bool Try.underlying4 h1
  obtain ⟨x2, e2, _, w2⟩ := DataW.trod_int Try.underlying3 h2
  obtain ⟨x3, e3, _, w3⟩ := DataW.trod_int Try.underlying22 h3
  simp at e0 e1 e2 e3
  subst e0; subst e1; subst e2; subst e3
  exact ⟨x0, x1, x2, x3, rfl, bounds_i64 w0, bounds_i64 w2, bounds_u32 w3⟩
end Go.Proofs.Ytkjfbgjbifdbjaa
