/-
  How slices of bytes that came in are opened to their cells.
-/
import Derived.Test.YtblibmalommdkaaGreatRows
import Derived.Test.YtblibmalommdkaaGreatEA
import Derived.Deep.Slices
import Derived.Deep.Fields
import Derived.ChangeSame
import Derived.OpenShut
import Derived.ChangeOld
import Derived.SizedLaws
namespace Go.Proofs.YtblibmalommdkaaGreat.Re
open Go.ChangeShapes Go.WideShapes Go.Deep Go.RowKit
theorem laidOut : laidOutB Tryz.prog = true := by kernel_rfl
theorem own : ownKnob Tryz.prog.godebug = none := by kernel_rfl
theorem add_off {w : World} {a : Addr} {v : Value} (h : w.cell? (a.add 0) = some v) : ∃ b off, a = ⟨b, off, none⟩ := by
  obtain ⟨b, off, spot⟩ := a
  have hspot : spot = none := by simpa [Addr.add] using World.cell?_spot h
  subst hspot
  exact ⟨b, off, rfl⟩
theorem add_lit' (b off i : Nat) : (⟨b, off, none⟩ : Addr).add i = ⟨b, off + i, none⟩ := by unfold Addr.add; split <;> simp_all

/-- The cells of a slice of bytes, of whatever reading. -/
theorem cells_bytes {H : Type} {enc : TypeId × Value → H} {W : World} {base : Nat} {spare : Nat → Bool} {held : Bool} {fuel : Nat} {v : Value} {x : DataW H × List MemPlace} (h : DataW.trod enc Tryz.prog W base spare held fuel 22 [v] = some x) :
    ∃ A c, ∃ l : List Int, v = .slice A l.length c ∧ RdB W W.heap.size A l ∧ l.length ≤ c ∧ c ≤ maxLen ∧ (A = none → c = 0) ∧ ∀ n ∈ l, (Lit.int .u8 n).wf = true := by
  rcases open_ints Tryz.underlying22 Tryz.underlying5 (by kernel_rfl) h with ⟨hcs, _⟩ | ⟨a, len, cap, zs, hcs, _, hl, hm, hz, _, hcell, hwz⟩
  · injection hcs with hv
    exact ⟨none, 0, [], hv, RdB.nil _ _ _, Nat.le_refl _, by decide, fun _ => rfl, fun n hn => by simp at hn⟩
  · injection hcs with hv
    have hzl : len ≤ zs.length := by rw [hz]; split <;> omega
    refine ⟨some a, cap, zs.take len, ?_, ?_, ?_, hm, (fun h => by cases h), fun n hn => hwz n (List.mem_of_mem_take hn)⟩
    · rw [hv, List.length_take, Nat.min_eq_left hzl]
    · intro k u hu
      rw [List.getElem?_take] at hu
      split at hu
      · have hk := (List.getElem?_eq_some_iff.1 hu).1
        have h0 := hcell 0 (by omega)
        obtain ⟨b, off, rfl⟩ := add_off h0
        have hc := hcell k hk
        rw [add_lit'] at hc
        refine ⟨b, off, rfl, World.block_lt_of_cell? W _ hc, ?_⟩
        rw [hc, List.getD_eq_getElem?_getD, hu]; rfl
      · cases hu
    · rw [List.length_take]; omega
/-- A slice of bytes that came in reads as a list. -/
theorem open_bytes {H : Type} {enc : TypeId × Value → H} {W : World} {A : Option Addr} {len cap : Nat} {d : DataW H} {p : List MemPlace} (h : DataW.Trod enc Tryz.prog W 0 (fun _ => true) true 22 (.slice A len cap) d p) :
    ∃ l : List Int, l.length = len ∧ RdB W W.heap.size A l ∧ len ≤ cap ∧ cap ≤ maxLen ∧ (A = none → cap = 0) ∧ ∀ n ∈ l, (Lit.int .u8 n).wf = true := by
  obtain ⟨fuel, hf⟩ := h
  obtain ⟨A', c, l, hv, h1, h2, h3, h4, h5⟩ := cells_bytes (v := .slice A len cap) hf
  injection hv with ha hn hc
  subst ha; subst hc
  exact ⟨l, hn.symm, h1, by omega, h3, h4, h5⟩
theorem wf_bounds {n : Int} (h : (Lit.int .i64 n).wf = true) : -9223372036854775808 ≤ n ∧ n ≤ 9223372036854775807 := bounds_i64 h
theorem wf_byte {l : List Int} (h : ∀ n ∈ l, (Lit.int .u8 n).wf = true) : ∀ n ∈ l, 0 ≤ n ∧ n ≤ 255 := fun n hn => bounds_u8 (h n hn)
end Go.Proofs.YtblibmalommdkaaGreat.Re
