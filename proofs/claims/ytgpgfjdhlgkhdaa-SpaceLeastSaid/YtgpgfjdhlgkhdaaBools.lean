/-
  A row of bools that the call made, by its cells. No program in sight.
-/
import Derived.Test.YtgpgfjdhlgkhdaaBase
namespace Go.Proofs.Ytgpgfjdhlgkhdaa
open Go.RowKit
/-- Block g holds n bools, that of i being f i. -/
def BR (w : World) (g n : Nat) (f : Int → Bool) : Prop := g < w.heap.size ∧ ∀ i : Nat, i < n → w.cell? ⟨g, i, none⟩ = some (.bool (f i)) ∧ w.frozen? ⟨g, i, none⟩ = false
theorem BR.below {w w' : World} {g n B : Nat} {f : Int → Bool} (h : BR w g n f) (hb : Below B w w') (hB : g < B) : BR w' g n f :=
  ⟨Nat.lt_of_lt_of_le h.1 hb.size, fun i hi => ⟨(hb.cell (p := ⟨g, i, none⟩) hB).trans (h.2 i hi).1, (hb.frozen (p := ⟨g, i, none⟩) hB).trans (h.2 i hi).2⟩⟩
theorem BR.kept {w w' : World} {g n : Nat} {f : Int → Bool} (h : BR w g n f) (hh : w'.heap[g]? = w.heap[g]?) (hs : w.heap.size ≤ w'.heap.size) : BR w' g n f :=
  ⟨Nat.lt_of_lt_of_le h.1 hs, fun i hi => ⟨(World.cell?_of_block (w := w) (a := ⟨g, i, none⟩) hh).trans (h.2 i hi).1, (World.frozen?_of_block (w := w) (a := ⟨g, i, none⟩) hh).trans (h.2 i hi).2⟩⟩
theorem BR.drewN {w : World} {g n : Nat} {f : Int → Bool} (h : BR w g n f) (k : Nat) : BR (w.drewN k) g n f := h
theorem BR.alloc {w : World} {g n : Nat} {f : Int → Bool} (h : BR w g n f) (o : Obj) : BR (w.alloc o) g n f := h.below (B := w.heap.size) ((Below.refl _ _).alloc (Nat.le_refl _) o) h.1
/-- A store into it. -/
theorem BR.set {w : World} {g n : Nat} {f : Int → Bool} (h : BR w g n f) (k : Nat) (hk : k < n) (x : Bool) : BR (w.setCell ⟨g, k, none⟩ (.bool x)) g n (fun j => if j = (k : Int) then x else f j) := by
  refine ⟨by simpa using h.1, fun i hi => ⟨?_, by rw [World.frozen?_setCell]; exact (h.2 i hi).2⟩⟩
  by_cases he : i = k
  · subst he
    rw [World.cell?_setCell_same _ _ _ (h.2 i hi).1]
    simp
  · refine (World.cell?_setCell_other _ _ _ _ (by intro hh; injection hh with _ h2 _; omega)).trans ?_
    rw [(h.2 i hi).1]
    have : ¬ ((i : Int) = (k : Int)) := by omega
    simp [this]
theorem BR.other {w : World} {g g2 n : Nat} {f : Int → Bool} (h : BR w g n f) (o : Nat) (hne : g ≠ g2) (v : Value) : BR (w.setCell ⟨g2, o, none⟩ v) g n f :=
  h.kept (Below.heap_setCell w ⟨g2, o, none⟩ v g hne) (by simp)
end Go.Proofs.Ytgpgfjdhlgkhdaa
