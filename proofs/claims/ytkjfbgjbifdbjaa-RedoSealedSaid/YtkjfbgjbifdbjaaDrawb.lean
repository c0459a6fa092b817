/-
  A drawn region by an invariant, where what has come up is closed; and four stores in a row. No program in sight.
-/
import Derived.Test.YtkjfbgjbifdbjaaDraw
namespace Go.Proofs.Ytkjfbgjbifdbjaa
open Go.RowKit
section
variable {P : Program} {ops : Array Oper} {Q : Exit → Act → World → Prop} {md : Region.Mode}
/-- Whatever has come up, what it waits for has come up. -/
def Closed (md : Region.Mode) (ops : Array Oper) (listed : Array Bool) : Prop := ∀ i j, Up listed i → waits md ops i j = true → Up listed j
theorem closed_none (n : Nat) : Closed md ops (Array.replicate n false) := fun i j h _ => by
  exfalso
  unfold Up at h
  by_cases hlt : i < n
  · simp [Array.getD_eq_getD_getElem?, hlt] at h
  · simp [Array.getD_eq_getD_getElem?, hlt] at h
theorem wpAny_invC (Inv : Array Bool → Act → World → Prop)
    (hstep : ∀ listed a w i, listed.size = ops.size → Closed md ops listed → Inv listed a w → i ∈ Region.ready md ops listed → wpOp P ops Q i (fun a w => Inv (listed.setIfInBounds i true) a w) a w)
    (hdone : ∀ listed a w, listed.size = ops.size → Inv listed a w → Region.ready md ops listed = [] → Q .normal a w) (fuel : Nat) (n : Nat) (a : Act) (w : World) (hs : n = ops.size) (hc : (Array.replicate n false).toList.count false ≤ fuel) (h : Inv (Array.replicate n false) a w) :
    wpAny P md ops Q fuel (Array.replicate n false) a w := by
  refine wpAny_inv (fun L a w => Closed md ops L ∧ Inv L a w) ?_ (fun L a w hs h hr => hdone L a w hs h.2 hr) fuel _ a w (by simpa using hs) hc ⟨closed_none n, h⟩
  intro L a w i hs h hr
  refine wpOp_mono (fun a' w' h' => ⟨?_, h'⟩) (hstep L a w i hs h.1 h.2 hr)
  intro j k hj hw
  have hi : i < L.size := by have := ready_lt hr; omega
  rcases (up_set hi).1 hj with rfl | hj
  · exact (up_set hi).2 (.inr (ready_dep hr k hw))
  · exact (up_set hi).2 (.inr (h.1 j k hj hw))
end
theorem four_set {w : World} {g : Nat} {a0 a1 a2 a3 : Value} (b0 b1 b2 b3 : Value) (e0 : w.cell? ⟨g, 0, none⟩ = some a0) (e1 : w.cell? ⟨g, 1, none⟩ = some a1) (e2 : w.cell? ⟨g, 2, none⟩ = some a2) (e3 : w.cell? ⟨g, 3, none⟩ = some a3) :
    let w' := (((w.setCell ⟨g, 0, none⟩ b0).setCell ⟨g, 1, none⟩ b1).setCell ⟨g, 2, none⟩ b2).setCell ⟨g, 3, none⟩ b3
    w'.cell? ⟨g, 0, none⟩ = some b0 ∧ w'.cell? ⟨g, 1, none⟩ = some b1 ∧ w'.cell? ⟨g, 2, none⟩ = some b2 ∧ w'.cell? ⟨g, 3, none⟩ = some b3 := by
  have o : ∀ (W : World) (i j : Nat) (v : Value), i ≠ j → (W.setCell ⟨g, i, none⟩ v).cell? ⟨g, j, none⟩ = W.cell? ⟨g, j, none⟩ := fun W i j v h => World.cell?_setCell_other _ _ _ _ (by intro hh; injection hh with _ h2 _; omega)
  refine ⟨?_, ?_, ?_, ?_⟩
  · rw [o _ 3 0 _ (by decide), o _ 2 0 _ (by decide), o _ 1 0 _ (by decide)]; exact World.cell?_setCell_same _ _ _ e0
  · rw [o _ 3 1 _ (by decide), o _ 2 1 _ (by decide)]; exact World.cell?_setCell_same _ _ _ ((o _ 0 1 _ (by decide)).trans e1)
  · rw [o _ 3 2 _ (by decide)]; exact World.cell?_setCell_same _ _ _ ((o _ 1 2 _ (by decide)).trans ((o _ 0 2 _ (by decide)).trans e2))
  · exact World.cell?_setCell_same _ _ _ ((o _ 2 3 _ (by decide)).trans ((o _ 1 3 _ (by decide)).trans ((o _ 0 3 _ (by decide)).trans e3)))
end Go.Proofs.Ytkjfbgjbifdbjaa
