/-
  What the second form's bound says of a slice of bytes.
-/
import Derived.Test.YtnfipflodhnbhaaOpena
namespace Go.Proofs.Ytnfipflodhnbhaa
open Go.ChangeShapes Go.WideShapes Go.Deep Go.RowKit
theorem bulk_one {H : Type} (d : DataW H) : 1 ≤ Rows.uptoBulk d := by
  cases d with
  | lit l => cases l <;> simp [Rows.uptoBulk]
  | nil => simp [Rows.uptoBulk]
  | ptr d => simp [Rows.uptoBulk]
  | slice elems spare => simp [Rows.uptoBulk]
  | agg parts => simp [Rows.uptoBulk]
  | iface t d => simp [Rows.uptoBulk]
  | map entries => simp [Rows.uptoBulk]
  | held h => simp [Rows.uptoBulk]
theorem bulk_length {H : Type} (l : List (DataW H)) : l.length ≤ Rows.uptoBulkAll l := by
  induction l with
  | nil => simp [Rows.uptoBulkAll]
  | cons x r ih => have := bulk_one x; simp only [Rows.uptoBulkAll, List.length_cons]; omega
/-- A slice of bytes is no longer than its reading. -/
theorem len_bulk {H : Type} {enc : TypeId × Value → H} {W : World} {A : Option Addr} {len cap : Nat} {d : DataW H} {p : List MemPlace} (h : DataW.Trod enc Try.prog W 0 (fun _ => true) true 22 (.slice A len cap) d p) :
    len + 1 ≤ Rows.uptoBulk d := by
  obtain ⟨fuel, hf⟩ := h
  rcases open_ints Try.underlying22 Try.underlying5 (by kernel_rfl) hf with ⟨hcs, hx⟩ | ⟨a, len', cap', zs, hcs, _, hl, hm, hz, hx, _, _⟩
  · injection hcs with hv
    injection hv with _ hn _
    have := bulk_one d
    omega
  · injection hcs with hv
    injection hv with _ hn _
    injection hx with hd _
    have hzl : len' ≤ zs.length := by rw [hz]; split <;> omega
    have h1 := bulk_length (H := H) (lits .u8 (zs.take len'))
    have h2 : (lits (H := H) .u8 (zs.take len')).length = len' := by simp [lits]; omega
    rw [hd]
    simp only [Rows.uptoBulk]
    omega
end Go.Proofs.Ytnfipflodhnbhaa
