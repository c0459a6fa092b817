/-
  How slices of bytes, and slices of such slices, that came in are opened to their cells.
-/
import Derived.Test.YtlgablhlpcmcaaaOpenb
import Derived.Test.YtlgablhlpcmcaaaBytes
namespace Go.Proofs.Ytlgablhlpcmcaaa
open Go.ChangeShapes Go.WideShapes Go.Deep Go.RowKit
/-- The cells of a slice of bytes, of whatever reading. -/
theorem cells_bytes {H : Type} {enc : TypeId × Value → H} {W : World} {base : Nat} {spare : Nat → Bool} {held : Bool} {fuel : Nat} {v : Value} {x : DataW H × List MemPlace} (h : DataW.trod enc Try.prog W base spare held fuel 34 [v] = some x) :
    ∃ A c, ∃ l : List Int, v = .slice A l.length c ∧ RdB W W.heap.size A l ∧ l.length ≤ c ∧ c ≤ maxLen ∧ (A = none → c = 0) ∧ ∀ n ∈ l, (Lit.int .u8 n).wf = true := by
  rcases open_ints Try.underlying34 Try.underlying5 (by kernel_rfl) h with ⟨hcs, _⟩ | ⟨a, len, cap, zs, hcs, _, hl, hm, hz, _, hcell, hwz⟩
  · injection hcs with hv
    exact ⟨none, 0, [], hv, RdB.nil _ _ _, Nat.le_refl _, by decide, fun _ => rfl, fun n hn => by simp at hn⟩
  · injection hcs with hv
    have hzl : len ≤ zs.length := by rw [hz]; split <;> omega
    refine ⟨some a, cap, zs.take len, ?_, ?_, ?_, hm, (fun h => by cases h), fun n hn => hwz n (List.mem_of_mem_take hn)⟩
    · rw [hv, List.length_take, Nat.min_eq_left hzl]
    · intro k u hu
      rw [List.getElem?_take] at hu
      split at hu
      · have hk := (List.getElem?_eq_some_iff.1 hu).1
        have h0 := hcell 0 (by omega)
        obtain ⟨b, off, rfl⟩ := add_off h0
        have hc := hcell k hk
        rw [add_lit'] at hc
        refine ⟨b, off, rfl, World.block_lt_of_cell? W _ hc, ?_⟩
        rw [hc, List.getD_eq_getElem?_getD, hu]; rfl
      · cases hu
    · rw [List.length_take]; omega
/-- A slice of bytes that came in reads as a list. -/
theorem open_bytes {H : Type} {enc : TypeId × Value → H} {W : World} {A : Option Addr} {len cap : Nat} {d : DataW H} {p : List MemPlace} (h : DataW.Trod enc Try.prog W 0 (fun _ => true) true 34 (.slice A len cap) d p) :
    ∃ l : List Int, l.length = len ∧ RdB W W.heap.size A l ∧ len ≤ cap ∧ cap ≤ maxLen ∧ (A = none → cap = 0) ∧ ∀ n ∈ l, (Lit.int .u8 n).wf = true := by
  obtain ⟨fuel, hf⟩ := h
  obtain ⟨A', c, l, hv, h1, h2, h3, h4, h5⟩ := cells_bytes (v := .slice A len cap) hf
  injection hv with ha hn hc
  subst ha; subst hc
  exact ⟨l, hn.symm, h1, by omega, h3, h4, h5⟩
/-- A slice of slices of bytes that came in reads as a list of lists. -/
theorem open_sources {H : Type} {enc : TypeId × Value → H} {W : World} {A : Option Addr} {len cap : Nat} {d : DataW H} {p : List MemPlace} (h : DataW.Trod enc Try.prog W 0 (fun _ => true) true 37 (.slice A len cap) d p) :
    ∃ ls : List (List Int), ls.length = len ∧ RdBL W W.heap.size A ls ∧ len ≤ cap ∧ cap ≤ maxLen := by
  obtain ⟨fuel, hf⟩ := h
  rcases open_slice1 Try.underlying37 (by kernel_rfl) hf with ⟨hcs, _⟩ | ⟨a, len', cap', m, n, V, D, Pl, hcs, _, hl, hm, hmm, _, hi⟩
  · simp [Value.cells] at hcs
    obtain ⟨rfl, rfl, rfl⟩ := hcs
    exact ⟨[], rfl, fun k l hl => by simp at hl, Nat.le_refl _, by decide⟩
  · simp [Value.cells] at hcs
    obtain ⟨rfl, rfl, rfl⟩ := hcs
    simp at hmm
    subst hmm
    obtain ⟨ls, hlen, hq⟩ := choose_list len (fun k (l : List Int) => ∃ Ak ck, W.cell? (a.add k) = some (.slice Ak l.length ck) ∧ l.length ≤ ck ∧ ck ≤ maxLen ∧ RdB W W.heap.size Ak l) (by
      intro i hil
      obtain ⟨hc, ht⟩ := hi i (by omega)
      obtain ⟨Ak, ck, l, hv, h1, h2, h3, _⟩ := cells_bytes ht
      rw [hv] at hc
      exact ⟨l, Ak, ck, hc, h2, h3, h1⟩)
    refine ⟨ls, hlen, ?_, hl, hm⟩
    intro k l hk
    obtain ⟨Ak, ck, hc, h2, h3, h1⟩ := hq k l hk
    have hkl := (List.getElem?_eq_some_iff.1 hk).1
    obtain ⟨l0, hl0⟩ := get_some ls 0 (by omega)
    obtain ⟨A0, c0, hc0, _⟩ := hq 0 l0 hl0
    obtain ⟨b, off, rfl⟩ := add_off hc0
    rw [add_lit'] at hc
    exact ⟨b, off, Ak, ck, rfl, World.block_lt_of_cell? W _ hc, hc, h2, h3, h1⟩
end Go.Proofs.Ytlgablhlpcmcaaa
