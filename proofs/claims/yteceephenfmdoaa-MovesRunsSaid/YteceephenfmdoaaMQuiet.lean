/-
  A region that draws its order, reads, and calls what makes memory beside all that is there: one walk in the text's order. No program in sight.
-/
import Derived.Test.YteceephenfmdoaaRB
import Derived.BigQuiet
namespace Go.Proofs.Yteceephenfmdoaa
open Go.RowKit
/-- The worlds that came of one: nothing that was there has changed. -/
def Qs (w : World) : Type := { W : World // Below w.heap.size w W }
instance (w : World) : Nonempty (Qs w) := ⟨⟨w, Below.refl _ _⟩⟩
theorem Qs.cell {w : World} (q : Qs w) {a : Addr} {v : Value} (h : w.cell? a = some v) : q.1.cell? a = some v := (q.2.cell (World.block_lt_of_cell? w a h)).trans h
/-- A callee that leaves all that was there. -/
theorem Qs.calls {P : Program} {f : FuncId} {args : Array Value} {w : World} {v : Value} (q : Qs w) (h : Calls P f args q.1 fun e w' => e = .returned v ∧ Below q.1.heap.size q.1 w') : Calls P f args q.1 fun e w'' => e = .returned v ∧ ∃ q' : Qs w, w'' = q'.1 :=
  h.mono fun _ w'' h => ⟨h.1, ⟨w'', q.2.trans (h.2.mono q.2.size)⟩, rfl⟩
theorem Qs.calls_same {P : Program} {f : FuncId} {args : Array Value} {w : World} {v : Value} (q : Qs w) (h : Calls P f args q.1 fun e w' => e = .returned v ∧ q.1 = w') : Calls P f args q.1 fun e w'' => e = .returned v ∧ ∃ q' : Qs w, w'' = q'.1 :=
  h.mono fun _ _ h => ⟨h.1, q, h.2.symm⟩
theorem wp_region_below {P : Program} {id : Nat} {Q : Exit → Act → World → Prop} {a : Act} {w : World} {l : List Oper} (hm : P.follows .mixedOrders = true) (hB : Region.lexB .any l.toArray = true)
    (h : wpQuiet P l.toArray (fun W => ∃ q : Qs w, W = q.1) (fun a' => ∀ w', (∃ q : Qs w, w' = q.1) → Q .normal a' w') l a) : (Code.region id l.toArray true).wp P Q a w :=
  wp_region_quiet (C := fun W => ∃ q : Qs w, W = q.1) hm hB ⟨⟨w.drew, belowDrewN (Below.refl _ _) 1⟩, rfl⟩ h
end Go.Proofs.Yteceephenfmdoaa
