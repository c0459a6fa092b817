/-
  A slice of scraps that came in: its datum, and how long it may be (the reach).
-/
import Derived.Test.YtlgablhlpcmcaaaOpena
namespace Go.Proofs.Ytlgablhlpcmcaaa
open Go.ChangeShapes Go.WideShapes Go.Deep Go.RowKit
theorem datum_scraps {H : Type} {enc : TypeId × Value → H} {W : World} {A : Option Addr} {len cap : Nat} {d : DataW H} {p : List MemPlace} (h : DataW.Trod enc Try.prog W 0 (fun _ => true) true 22 (.slice A len cap) d p) :
    (A = none ∧ len = 0 ∧ cap = 0) ∨ ∃ a elems spare, A = some a ∧ d = .slice elems spare ∧ elems.length + spare.length = cap ∧ len ≤ cap := by
  obtain ⟨fuel, hf⟩ := h
  rcases open_slice_fields Try.underlying22 Try.underlying31 (by kernel_rfl) (by kernel_rfl) hf with ⟨hcs, _⟩ | ⟨a, len', cap', m, D, Pl, hcs, _, hl, hm, hmm, hx, hi⟩
  · simp [Value.cells] at hcs
    obtain ⟨rfl, rfl, rfl⟩ := hcs
    exact .inl ⟨rfl, rfl, rfl⟩
  · simp [Value.cells] at hcs
    obtain ⟨rfl, rfl, rfl⟩ := hcs
    simp at hmm
    simp only [Prod.mk.injEq] at hx
    refine .inr ⟨a, _, _, rfl, hx.1, ?_, hl⟩
    simp
    omega
theorem bytes31 : Try.prog.bytesOf 31 = 24 := by kernel_rfl
theorem none_scraps {H : Type} {enc : TypeId × Value → H} {W : World} {A : Option Addr} {len cap : Nat} {d : DataW H} {p : List MemPlace} (h : DataW.Trod enc Try.prog W 0 (fun _ => true) true 22 (.slice A len cap) d p) : A = none → len = 0 ∧ cap = 0 := by
  intro hA
  rcases datum_scraps h with ⟨_, h1, h2⟩ | ⟨a, _, _, h1, _⟩
  · exact ⟨h1, h2⟩
  · rw [hA] at h1; cases h1
theorem sized_scraps {H : Type} {enc : TypeId × Value → H} {W : World} {A : Option Addr} {len cap : Nat} {d : DataW H} {p : List MemPlace} (h : DataW.Trod enc Try.prog W 0 (fun _ => true) true 22 (.slice A len cap) d p)
    {ts : List TypeId} {ds : List (DataW H)} (hsz : (DataW.weightsEach Try.prog ts ds).all (· ≤ reachBytes) = true) {j : Nat} (ht : ts[j]? = some 22) (hd : ds[j]? = some d) : len * 24 ≤ 140737488351232 := by
  rcases datum_scraps h with ⟨_, h1, h2⟩ | ⟨a, elems, spare, h1, h2, h3, h4⟩
  · subst h1; omega
  · subst h2
    have := sized_slice hsz (j := j) (t := 22) (e := 31) ht hd Try.underlying22
    rw [bytes31, h3] at this
    unfold reachBytes at this
    omega
end Go.Proofs.Ytlgablhlpcmcaaa
