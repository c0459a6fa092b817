/-
  No cell of these rows narrows 'for every input' (looked for: loops, veiled, ifaces, maps, wideKeys, modest, calm, conditions, laid).
  DERIVED. THE GIVEN ROWS OF THIS SEAT. 4 by the template 'for every input the law returns true; each argument reads behind the call as it read before'; 0 by the template 'total and deterministic' (their statements: YtkjfbgjbifdbjaaTotals.lean).
  GIVEN WITH THE SEED: the statements are not yours to turn. If you find one false, say at which input.
  Laid BY PROGRAM, IN A SANDBOX (cutbox-rows.mjs): the forced cells as the released guide's own fill.sh prints them over the translation 2cb0bf1bdb60016f… (all of the seat's roots in one cut). By AI agents, Wed Nov 11 2026. No macro, syntax, notation, axiom, sorry.
-/
import Derived.Test.YtkjfbgjbifdbjaaChecked
import GoSem.Claim
import GoSem.ClaimJoined
import GoSem.ClaimMapViews
import Derived.JoinedTies
import Derived.KernelRfl
namespace Go.Proofs.Ytkjfbgjbifdbjaa
/- THE CELL 'sum', in the pinned program and in every row, IS THE sha256 OF THE DUMP (.gsa) THAT YtkjfbgjbifdbjaaProg.lean LOADS. Nothing in Lean hashes anything: it is a label: what it is worth is what the hold of that sum in a sandbox is worth. -/
noncomputable def Try.pinned : Pinned := { name := "ytkjfbgjbifdbjaa", sum := "2cb0bf1bdb60016f979122380d900cb068a80ecbfb0bdaa818150430029b3fe9", checked := Try.checked }
namespace Rows
def none {H : Type} : Left H := { results := [], args := [] }

/-- 'octavolaw22.RedoHeads': WHATEVER THE INPUT: true; the input reads as it did. -/
def redoHeadsSpec : ChangeSpec := { name := "redoHeads", fn := fun _ => fun
  | [d1, d2] => { results := [.lit (.bool true)], args := [d1, d2] }
  | _ => none }
def redoHeadsRow : OpenClaim := { program := "ytkjfbgjbifdbjaa", sum := "2cb0bf1bdb60016f979122380d900cb068a80ecbfb0bdaa818150430029b3fe9", func := "octavo/octavolaw22.RedoHeads", spec := "redoHeads", apart := false }
def RedoHeadsSaid : Prop := redoHeadsRow.holds Try.pinned (OpenSpec.ofChange redoHeadsSpec)

/-- ITS FALSE NEIGHBOUR: 'it returns false'. Refute it at one input. -/
def redoHeadsWrong : ChangeSpec := { name := "redoHeads", fn := fun _ => fun
  | [d1, d2] => { results := [.lit (.bool false)], args := [d1, d2] }
  | _ => none }
def RedoHeadsWrongFalsely : Prop := redoHeadsRow.holds Try.pinned (OpenSpec.ofChange redoHeadsWrong)

/-- 'octavolaw22.RedoSealed': WHATEVER THE INPUT: true; the input reads as it did. -/
def redoSealedSpec : ChangeSpec := { name := "redoSealed", fn := fun _ => fun
  | [d] => { results := [.lit (.bool true)], args := [d] }
  | _ => none }
def redoSealedRow : OpenClaim := { program := "ytkjfbgjbifdbjaa", sum := "2cb0bf1bdb60016f979122380d900cb068a80ecbfb0bdaa818150430029b3fe9", func := "octavo/octavolaw22.RedoSealed", spec := "redoSealed", apart := false }
def RedoSealedSaid : Prop := redoSealedRow.holds Try.pinned (OpenSpec.ofChange redoSealedSpec)

/-- ITS FALSE NEIGHBOUR: 'it returns false'. Refute it at one input. -/
def redoSealedWrong : ChangeSpec := { name := "redoSealed", fn := fun _ => fun
  | [d] => { results := [.lit (.bool false)], args := [d] }
  | _ => none }
def RedoSealedWrongFalsely : Prop := redoSealedRow.holds Try.pinned (OpenSpec.ofChange redoSealedWrong)

/-- 'octavolaw22.RedoTurned': WHATEVER THE INPUT: true; the input reads as it did. -/
def redoTurnedSpec : ChangeSpec := { name := "redoTurned", fn := fun _ => fun
  | [d1, d2] => { results := [.lit (.bool true)], args := [d1, d2] }
  | _ => none }
def redoTurnedRow : OpenClaim := { program := "ytkjfbgjbifdbjaa", sum := "2cb0bf1bdb60016f979122380d900cb068a80ecbfb0bdaa818150430029b3fe9", func := "octavo/octavolaw22.RedoTurned", spec := "redoTurned", apart := false }
def RedoTurnedSaid : Prop := redoTurnedRow.holds Try.pinned (OpenSpec.ofChange redoTurnedSpec)

/-- ITS FALSE NEIGHBOUR: 'it returns false'. Refute it at one input. -/
def redoTurnedWrong : ChangeSpec := { name := "redoTurned", fn := fun _ => fun
  | [d1, d2] => { results := [.lit (.bool false)], args := [d1, d2] }
  | _ => none }
def RedoTurnedWrongFalsely : Prop := redoTurnedRow.holds Try.pinned (OpenSpec.ofChange redoTurnedWrong)

/-- 'octavolaw22.RedoSlots': WHATEVER THE INPUT: true; the input reads as it did. -/
def redoSlotsSpec : ChangeSpec := { name := "redoSlots", fn := fun _ => fun
  | [d1, d2] => { results := [.lit (.bool true)], args := [d1, d2] }
  | _ => none }
def redoSlotsRow : OpenClaim := { program := "ytkjfbgjbifdbjaa", sum := "2cb0bf1bdb60016f979122380d900cb068a80ecbfb0bdaa818150430029b3fe9", func := "octavo/octavolaw22.RedoSlots", spec := "redoSlots", apart := false }
def RedoSlotsSaid : Prop := redoSlotsRow.holds Try.pinned (OpenSpec.ofChange redoSlotsSpec)

/-- ITS FALSE NEIGHBOUR: 'it returns false'. Refute it at one input. -/
def redoSlotsWrong : ChangeSpec := { name := "redoSlots", fn := fun _ => fun
  | [d1, d2] => { results := [.lit (.bool false)], args := [d1, d2] }
  | _ => none }
def RedoSlotsWrongFalsely : Prop := redoSlotsRow.holds Try.pinned (OpenSpec.ofChange redoSlotsWrong)

/- THE SECOND FORM. 'bulk': how many values and letters a reading holds, each counted each time it is reached (what is shared counts as often as it is met; a slice's spare places count too). A statement '..UptoSaid' is the law's where the arguments, and the package variables that the reading takes, are together of bulk at most 1048576: NARROWER than '..Said'. Prove '..Said' where nothing that the law and all that it calls make is longer than what came in: it says more and counts as full. Else prove '..UptoSaid'. A law counts once. -/
mutual
def uptoBulk {H : Type} : DataW H → Nat
  | .lit (.string bytes) => bytes.length + 1
  | .lit _ => 1
  | .nil => 1
  | .ptr d => uptoBulk d + 1
  | .slice elems spare => uptoBulkAll elems + uptoBulkAll spare + 1
  | .agg parts => uptoBulkAll parts + 1
  | .iface _ d => uptoBulk d + 1
  | .map entries => uptoBulkEntries entries + 1
  | .held _ => 1
def uptoBulkAll {H : Type} : List (DataW H) → Nat
  | [] => 0
  | d :: r => uptoBulk d + uptoBulkAll r
def uptoBulkEntries {H : Type} : List (Lit × DataW H) → Nat
  | [] => 0
  | x :: r => uptoBulkEntry x + uptoBulkEntries r
def uptoBulkEntry {H : Type} : Lit × DataW H → Nat
  | (.string bytes, d) => bytes.length + uptoBulk d + 1
  | (_, d) => uptoBulk d + 1
 end
def uptoSmall : (H : Type) → List (DataW H) → Bool := fun _ ds => decide (uptoBulkAll ds ≤ 1048576)
def OpenSpec.upto (s : _root_.Go.ChangeSpec) : _root_.Go.OpenSpec := { _root_.Go.OpenSpec.ofChange s with cond := some uptoSmall }

/-- 'octavolaw22.RedoHeads', WHERE WHAT IT READS IS OF BULK AT MOST 1048576: true; the input reads as it did. -/
def redoHeadsUptoRow : OpenClaim := { program := "ytkjfbgjbifdbjaa", sum := "2cb0bf1bdb60016f979122380d900cb068a80ecbfb0bdaa818150430029b3fe9", func := "octavo/octavolaw22.RedoHeads", spec := "redoHeads", apart := false, narrowed := true }
def RedoHeadsUptoSaid : Prop := redoHeadsUptoRow.holds Try.pinned (OpenSpec.upto redoHeadsSpec)

/-- 'octavolaw22.RedoSealed', WHERE WHAT IT READS IS OF BULK AT MOST 1048576: true; the input reads as it did. -/
def redoSealedUptoRow : OpenClaim := { program := "ytkjfbgjbifdbjaa", sum := "2cb0bf1bdb60016f979122380d900cb068a80ecbfb0bdaa818150430029b3fe9", func := "octavo/octavolaw22.RedoSealed", spec := "redoSealed", apart := false, narrowed := true }
def RedoSealedUptoSaid : Prop := redoSealedUptoRow.holds Try.pinned (OpenSpec.upto redoSealedSpec)

/-- 'octavolaw22.RedoTurned', WHERE WHAT IT READS IS OF BULK AT MOST 1048576: true; the input reads as it did. -/
def redoTurnedUptoRow : OpenClaim := { program := "ytkjfbgjbifdbjaa", sum := "2cb0bf1bdb60016f979122380d900cb068a80ecbfb0bdaa818150430029b3fe9", func := "octavo/octavolaw22.RedoTurned", spec := "redoTurned", apart := false, narrowed := true }
def RedoTurnedUptoSaid : Prop := redoTurnedUptoRow.holds Try.pinned (OpenSpec.upto redoTurnedSpec)

/-- 'octavolaw22.RedoSlots', WHERE WHAT IT READS IS OF BULK AT MOST 1048576: true; the input reads as it did. -/
def redoSlotsUptoRow : OpenClaim := { program := "ytkjfbgjbifdbjaa", sum := "2cb0bf1bdb60016f979122380d900cb068a80ecbfb0bdaa818150430029b3fe9", func := "octavo/octavolaw22.RedoSlots", spec := "redoSlots", apart := false, narrowed := true }
def RedoSlotsUptoSaid : Prop := redoSlotsUptoRow.holds Try.pinned (OpenSpec.upto redoSlotsSpec)

end Rows
end Go.Proofs.Ytkjfbgjbifdbjaa
