/-
  How the two files of a statement, its lists of parts and its scraps are opened, in the form that the walks take.
-/
import Derived.Test.YtdpjblepcpjomaaOpena
import Derived.Lib.SmallJoins
namespace Go.Proofs.Ytdpjblepcpjomaa.Rb
open Go.ChangeShapes Go.WideShapes Go.Deep Go.RowKit
set_option maxRecDepth 100000 in
theorem open_files {H : Type} {enc : TypeId × Value → H} {W : World} {base : Nat} {v : Value} {d : DataW H} {p : List MemPlace} (hv : Value.okWide Try.prog W .any base 43 v) (h : DataW.Trod enc Try.prog W 0 (fun _ => true) true 43 v d p) :
    ∃ Ao co, ∃ orig : List Int, ∃ At ct, ∃ tl : List Int, v = .agg #[.slice Ao orig.length co, .slice At tl.length ct] ∧ Sc.RdB W W.heap.size Ao orig ∧ orig.length ≤ co ∧ co ≤ 9223372036854775807 ∧ (Ao = none → co = 0) ∧
      Sc.RdB W W.heap.size At tl ∧ tl.length ≤ ct ∧ ct ≤ 9223372036854775807 ∧ (At = none → ct = 0) := by
  obtain ⟨e0, e1, y0, y1, m, rfl, _, _, h0, h1⟩ := Go.Joins.open_agg2 Try.underlying43 (by kernel_rfl) (by kernel_rfl) hv h
  obtain ⟨Ao, co, orig, rfl, a1, a2, a3, a4, _⟩ := cells_bytes h0
  obtain ⟨At, ct, tl, rfl, b1, b2, b3, b4, _⟩ := cells_bytes h1
  unfold maxLen at a3 b3
  exact ⟨Ao, co, orig, At, ct, tl, rfl, a1, a2, by omega, a4, b1, b2, by omega, b4⟩
theorem open_parts' {H : Type} {enc : TypeId × Value → H} {W : World} {A : Option Addr} {len cap : Nat} {d : DataW H} {p : List MemPlace} (h : DataW.Trod enc Try.prog W 0 (fun _ => true) true 44 (.slice A len cap) d p) :
    ∃ l : List S, l.length = len ∧ Sc.Rd W W.heap.size A l ∧ len ≤ 9223372036854775807 ∧ (∀ s ∈ l, -9223372036854775808 ≤ s.src ∧ s.src ≤ 9223372036854775807 ∧ -9223372036854775808 ≤ s.at_ ∧ s.at_ ≤ 9223372036854775807 ∧ -9223372036854775808 ≤ s.len ∧ s.len ≤ 9223372036854775807) := by
  obtain ⟨l, h1, h2, h3, h4, h5, _⟩ := open_parts h
  unfold maxLen at h4
  refine ⟨l, h1, h2, by omega, fun s hs => ?_⟩
  have g0 := wf_bounds (h5 s hs).1
  have g1 := wf_bounds (h5 s hs).2.1
  have g2 := wf_bounds (h5 s hs).2.2
  exact ⟨g0.1, g0.2, g1.1, g1.2, g2.1, g2.2⟩
end Go.Proofs.Ytdpjblepcpjomaa.Rb
