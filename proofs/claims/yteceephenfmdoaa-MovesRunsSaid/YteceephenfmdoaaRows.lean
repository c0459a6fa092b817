/-
  No cell of these rows narrows 'for every input' (looked for: loops, veiled, ifaces, maps, wideKeys, modest, calm, conditions, laid).
  DERIVED. THE GIVEN ROWS OF THIS SEAT. 8 by the template 'for every input the law returns true; each argument reads behind the call as it read before'; 0 by the template 'total and deterministic' (their statements: YteceephenfmdoaaTotals.lean).
  GIVEN WITH THE SEED: the statements are not yours to turn. If you find one false, say at which input.
  Laid BY PROGRAM, IN A SANDBOX (cutbox-rows.mjs): the forced cells as the released guide's own fill.sh prints them over the translation 15132cb50bd31036… (all of the seat's roots in one cut). By AI agents, Wed Nov 11 2026. No macro, syntax, notation, axiom, sorry.
-/
import Derived.Test.YteceephenfmdoaaChecked
import GoSem.Claim
import GoSem.ClaimJoined
import GoSem.ClaimMapViews
import Derived.JoinedTies
import Derived.KernelRfl
namespace Go.Proofs.Yteceephenfmdoaa
/- THE CELL 'sum', in the pinned program and in every row, IS THE sha256 OF THE DUMP (.gsa) THAT YteceephenfmdoaaProg.lean LOADS. Nothing in Lean hashes anything: it is a label: what it is worth is what the hold of that sum in a sandbox is worth. -/
noncomputable def Try.pinned : Pinned := { name := "yteceephenfmdoaa", sum := "15132cb50bd31036b45d9281cf57a68423440123c87972993c8316855cc417f1", checked := Try.checked }
namespace Rows
def none {H : Type} : Left H := { results := [], args := [] }

/-- 'octavolaw20.MovesMakes': WHATEVER THE INPUT: true; the input reads as it did. -/
def movesMakesSpec : ChangeSpec := { name := "movesMakes", fn := fun _ => fun
  | [d1, d2, d3, d4] => { results := [.lit (.bool true)], args := [d1, d2, d3, d4] }
  | _ => none }
def movesMakesRow : OpenClaim := { program := "yteceephenfmdoaa", sum := "15132cb50bd31036b45d9281cf57a68423440123c87972993c8316855cc417f1", func := "octavo/octavolaw20.MovesMakes", spec := "movesMakes", inPlace := ["internal/reflectlite.ValueOf", "internal/reflectlite.Swapper", "(internal/reflectlite.Value).Len"], unfollowed := true, recurses := true, apart := false }
def MovesMakesSaid : Prop := movesMakesRow.holds Try.pinned (OpenSpec.ofChange movesMakesSpec)

/-- ITS FALSE NEIGHBOUR: 'it returns false'. Refute it at one input. -/
def movesMakesWrong : ChangeSpec := { name := "movesMakes", fn := fun _ => fun
  | [d1, d2, d3, d4] => { results := [.lit (.bool false)], args := [d1, d2, d3, d4] }
  | _ => none }
def MovesMakesWrongFalsely : Prop := movesMakesRow.holds Try.pinned (OpenSpec.ofChange movesMakesWrong)

/-- 'octavolaw20.MovesRefuses': WHATEVER THE INPUT: true; the input reads as it did. -/
def movesRefusesSpec : ChangeSpec := { name := "movesRefuses", fn := fun _ => fun
  | [d1, d2, d3] => { results := [.lit (.bool true)], args := [d1, d2, d3] }
  | _ => none }
def movesRefusesRow : OpenClaim := { program := "yteceephenfmdoaa", sum := "15132cb50bd31036b45d9281cf57a68423440123c87972993c8316855cc417f1", func := "octavo/octavolaw20.MovesRefuses", spec := "movesRefuses", inPlace := ["internal/reflectlite.ValueOf", "internal/reflectlite.Swapper", "(internal/reflectlite.Value).Len"], unfollowed := true, recurses := true, apart := false }
def MovesRefusesSaid : Prop := movesRefusesRow.holds Try.pinned (OpenSpec.ofChange movesRefusesSpec)

/-- ITS FALSE NEIGHBOUR: 'it returns false'. Refute it at one input. -/
def movesRefusesWrong : ChangeSpec := { name := "movesRefuses", fn := fun _ => fun
  | [d1, d2, d3] => { results := [.lit (.bool false)], args := [d1, d2, d3] }
  | _ => none }
def MovesRefusesWrongFalsely : Prop := movesRefusesRow.holds Try.pinned (OpenSpec.ofChange movesRefusesWrong)

/-- 'octavolaw20.MovesChecks': WHATEVER THE INPUT: true; the input reads as it did. -/
def movesChecksSpec : ChangeSpec := { name := "movesChecks", fn := fun _ => fun
  | [d1, d2, d3] => { results := [.lit (.bool true)], args := [d1, d2, d3] }
  | _ => none }
def movesChecksRow : OpenClaim := { program := "yteceephenfmdoaa", sum := "15132cb50bd31036b45d9281cf57a68423440123c87972993c8316855cc417f1", func := "octavo/octavolaw20.MovesChecks", spec := "movesChecks", inPlace := ["internal/reflectlite.ValueOf", "internal/reflectlite.Swapper", "(internal/reflectlite.Value).Len"], unfollowed := true, recurses := true, apart := false }
def MovesChecksSaid : Prop := movesChecksRow.holds Try.pinned (OpenSpec.ofChange movesChecksSpec)

/-- ITS FALSE NEIGHBOUR: 'it returns false'. Refute it at one input. -/
def movesChecksWrong : ChangeSpec := { name := "movesChecks", fn := fun _ => fun
  | [d1, d2, d3] => { results := [.lit (.bool false)], args := [d1, d2, d3] }
  | _ => none }
def MovesChecksWrongFalsely : Prop := movesChecksRow.holds Try.pinned (OpenSpec.ofChange movesChecksWrong)

/-- 'octavolaw20.MovesRuns': WHATEVER THE INPUT: true; the input reads as it did. -/
def movesRunsSpec : ChangeSpec := { name := "movesRuns", fn := fun _ => fun
  | [d1, d2, d3, d4, d5] => { results := [.lit (.bool true)], args := [d1, d2, d3, d4, d5] }
  | _ => none }
def movesRunsRow : OpenClaim := { program := "yteceephenfmdoaa", sum := "15132cb50bd31036b45d9281cf57a68423440123c87972993c8316855cc417f1", func := "octavo/octavolaw20.MovesRuns", spec := "movesRuns", inPlace := ["internal/reflectlite.ValueOf", "internal/reflectlite.Swapper", "(internal/reflectlite.Value).Len"], unfollowed := true, recurses := true, apart := false }
def MovesRunsSaid : Prop := movesRunsRow.holds Try.pinned (OpenSpec.ofChange movesRunsSpec)

/-- ITS FALSE NEIGHBOUR: 'it returns false'. Refute it at one input. -/
def movesRunsWrong : ChangeSpec := { name := "movesRuns", fn := fun _ => fun
  | [d1, d2, d3, d4, d5] => { results := [.lit (.bool false)], args := [d1, d2, d3, d4, d5] }
  | _ => none }
def MovesRunsWrongFalsely : Prop := movesRunsRow.holds Try.pinned (OpenSpec.ofChange movesRunsWrong)

/-- 'octavolaw20.MovesStash': WHATEVER THE INPUT: true; the input reads as it did. -/
def movesStashSpec : ChangeSpec := { name := "movesStash", fn := fun _ => fun
  | [d1, d2, d3, d4] => { results := [.lit (.bool true)], args := [d1, d2, d3, d4] }
  | _ => none }
def movesStashRow : OpenClaim := { program := "yteceephenfmdoaa", sum := "15132cb50bd31036b45d9281cf57a68423440123c87972993c8316855cc417f1", func := "octavo/octavolaw20.MovesStash", spec := "movesStash", inPlace := ["internal/reflectlite.ValueOf", "internal/reflectlite.Swapper", "(internal/reflectlite.Value).Len"], unfollowed := true, recurses := true, apart := false }
def MovesStashSaid : Prop := movesStashRow.holds Try.pinned (OpenSpec.ofChange movesStashSpec)

/-- ITS FALSE NEIGHBOUR: 'it returns false'. Refute it at one input. -/
def movesStashWrong : ChangeSpec := { name := "movesStash", fn := fun _ => fun
  | [d1, d2, d3, d4] => { results := [.lit (.bool false)], args := [d1, d2, d3, d4] }
  | _ => none }
def MovesStashWrongFalsely : Prop := movesStashRow.holds Try.pinned (OpenSpec.ofChange movesStashWrong)

/-- 'octavolaw20.MovesOrder': WHATEVER THE INPUT: true; the input reads as it did. -/
def movesOrderSpec : ChangeSpec := { name := "movesOrder", fn := fun _ => fun
  | [d1, d2, d3, d4] => { results := [.lit (.bool true)], args := [d1, d2, d3, d4] }
  | _ => none }
def movesOrderRow : OpenClaim := { program := "yteceephenfmdoaa", sum := "15132cb50bd31036b45d9281cf57a68423440123c87972993c8316855cc417f1", func := "octavo/octavolaw20.MovesOrder", spec := "movesOrder", inPlace := ["internal/reflectlite.ValueOf", "internal/reflectlite.Swapper", "(internal/reflectlite.Value).Len"], unfollowed := true, recurses := true, apart := false }
def MovesOrderSaid : Prop := movesOrderRow.holds Try.pinned (OpenSpec.ofChange movesOrderSpec)

/-- ITS FALSE NEIGHBOUR: 'it returns false'. Refute it at one input. -/
def movesOrderWrong : ChangeSpec := { name := "movesOrder", fn := fun _ => fun
  | [d1, d2, d3, d4] => { results := [.lit (.bool false)], args := [d1, d2, d3, d4] }
  | _ => none }
def MovesOrderWrongFalsely : Prop := movesOrderRow.holds Try.pinned (OpenSpec.ofChange movesOrderWrong)

/-- 'octavolaw20.MovesTurned': WHATEVER THE INPUT: true; the input reads as it did. -/
def movesTurnedSpec : ChangeSpec := { name := "movesTurned", fn := fun _ => fun
  | [d1, d2, d3] => { results := [.lit (.bool true)], args := [d1, d2, d3] }
  | _ => none }
def movesTurnedRow : OpenClaim := { program := "yteceephenfmdoaa", sum := "15132cb50bd31036b45d9281cf57a68423440123c87972993c8316855cc417f1", func := "octavo/octavolaw20.MovesTurned", spec := "movesTurned", inPlace := ["internal/reflectlite.ValueOf", "internal/reflectlite.Swapper", "(internal/reflectlite.Value).Len"], unfollowed := true, recurses := true, apart := false }
def MovesTurnedSaid : Prop := movesTurnedRow.holds Try.pinned (OpenSpec.ofChange movesTurnedSpec)

/-- ITS FALSE NEIGHBOUR: 'it returns false'. Refute it at one input. -/
def movesTurnedWrong : ChangeSpec := { name := "movesTurned", fn := fun _ => fun
  | [d1, d2, d3] => { results := [.lit (.bool false)], args := [d1, d2, d3] }
  | _ => none }
def MovesTurnedWrongFalsely : Prop := movesTurnedRow.holds Try.pinned (OpenSpec.ofChange movesTurnedWrong)

/-- 'octavolaw20.MovesEnds': WHATEVER THE INPUT: true; the input reads as it did. -/
def movesEndsSpec : ChangeSpec := { name := "movesEnds", fn := fun _ => fun
  | [d1, d2, d3] => { results := [.lit (.bool true)], args := [d1, d2, d3] }
  | _ => none }
def movesEndsRow : OpenClaim := { program := "yteceephenfmdoaa", sum := "15132cb50bd31036b45d9281cf57a68423440123c87972993c8316855cc417f1", func := "octavo/octavolaw20.MovesEnds", spec := "movesEnds", inPlace := ["internal/reflectlite.ValueOf", "internal/reflectlite.Swapper", "(internal/reflectlite.Value).Len"], unfollowed := true, recurses := true, apart := false }
def MovesEndsSaid : Prop := movesEndsRow.holds Try.pinned (OpenSpec.ofChange movesEndsSpec)

/-- ITS FALSE NEIGHBOUR: 'it returns false'. Refute it at one input. -/
def movesEndsWrong : ChangeSpec := { name := "movesEnds", fn := fun _ => fun
  | [d1, d2, d3] => { results := [.lit (.bool false)], args := [d1, d2, d3] }
  | _ => none }
def MovesEndsWrongFalsely : Prop := movesEndsRow.holds Try.pinned (OpenSpec.ofChange movesEndsWrong)

/- THE SECOND FORM. 'bulk': how many values and letters a reading holds, each counted each time it is reached (what is shared counts as often as it is met; a slice's spare places count too). A statement '..UptoSaid' is the law's where the arguments, and the package variables that the reading takes, are together of bulk at most 1048576: NARROWER than '..Said'. Prove '..Said' where nothing that the law and all that it calls make is longer than what came in: it says more and counts as full. Else prove '..UptoSaid'. A law counts once. -/
mutual
def uptoBulk {H : Type} : DataW H → Nat
  | .lit (.string bytes) => bytes.length + 1
  | .lit _ => 1
  | .nil => 1
  | .ptr d => uptoBulk d + 1
  | .slice elems spare => uptoBulkAll elems + uptoBulkAll spare + 1
  | .agg parts => uptoBulkAll parts + 1
  | .iface _ d => uptoBulk d + 1
  | .map entries => uptoBulkEntries entries + 1
  | .held _ => 1
def uptoBulkAll {H : Type} : List (DataW H) → Nat
  | [] => 0
  | d :: r => uptoBulk d + uptoBulkAll r
def uptoBulkEntries {H : Type} : List (Lit × DataW H) → Nat
  | [] => 0
  | x :: r => uptoBulkEntry x + uptoBulkEntries r
def uptoBulkEntry {H : Type} : Lit × DataW H → Nat
  | (.string bytes, d) => bytes.length + uptoBulk d + 1
  | (_, d) => uptoBulk d + 1
 end
def uptoSmall : (H : Type) → List (DataW H) → Bool := fun _ ds => decide (uptoBulkAll ds ≤ 1048576)
def OpenSpec.upto (s : _root_.Go.ChangeSpec) : _root_.Go.OpenSpec := { _root_.Go.OpenSpec.ofChange s with cond := some uptoSmall }

/-- 'octavolaw20.MovesMakes', WHERE WHAT IT READS IS OF BULK AT MOST 1048576: true; the input reads as it did. -/
def movesMakesUptoRow : OpenClaim := { program := "yteceephenfmdoaa", sum := "15132cb50bd31036b45d9281cf57a68423440123c87972993c8316855cc417f1", func := "octavo/octavolaw20.MovesMakes", spec := "movesMakes", inPlace := ["internal/reflectlite.ValueOf", "internal/reflectlite.Swapper", "(internal/reflectlite.Value).Len"], unfollowed := true, recurses := true, apart := false, narrowed := true }
def MovesMakesUptoSaid : Prop := movesMakesUptoRow.holds Try.pinned (OpenSpec.upto movesMakesSpec)

/-- 'octavolaw20.MovesRefuses', WHERE WHAT IT READS IS OF BULK AT MOST 1048576: true; the input reads as it did. -/
def movesRefusesUptoRow : OpenClaim := { program := "yteceephenfmdoaa", sum := "15132cb50bd31036b45d9281cf57a68423440123c87972993c8316855cc417f1", func := "octavo/octavolaw20.MovesRefuses", spec := "movesRefuses", inPlace := ["internal/reflectlite.ValueOf", "internal/reflectlite.Swapper", "(internal/reflectlite.Value).Len"], unfollowed := true, recurses := true, apart := false, narrowed := true }
def MovesRefusesUptoSaid : Prop := movesRefusesUptoRow.holds Try.pinned (OpenSpec.upto movesRefusesSpec)

/-- 'octavolaw20.MovesChecks', WHERE WHAT IT READS IS OF BULK AT MOST 1048576: true; the input reads as it did. -/
def movesChecksUptoRow : OpenClaim := { program := "yteceephenfmdoaa", sum := "15132cb50bd31036b45d9281cf57a68423440123c87972993c8316855cc417f1", func := "octavo/octavolaw20.MovesChecks", spec := "movesChecks", inPlace := ["internal/reflectlite.ValueOf", "internal/reflectlite.Swapper", "(internal/reflectlite.Value).Len"], unfollowed := true, recurses := true, apart := false, narrowed := true }
def MovesChecksUptoSaid : Prop := movesChecksUptoRow.holds Try.pinned (OpenSpec.upto movesChecksSpec)

/-- 'octavolaw20.MovesRuns', WHERE WHAT IT READS IS OF BULK AT MOST 1048576: true; the input reads as it did. -/
def movesRunsUptoRow : OpenClaim := { program := "yteceephenfmdoaa", sum := "15132cb50bd31036b45d9281cf57a68423440123c87972993c8316855cc417f1", func := "octavo/octavolaw20.MovesRuns", spec := "movesRuns", inPlace := ["internal/reflectlite.ValueOf", "internal/reflectlite.Swapper", "(internal/reflectlite.Value).Len"], unfollowed := true, recurses := true, apart := false, narrowed := true }
def MovesRunsUptoSaid : Prop := movesRunsUptoRow.holds Try.pinned (OpenSpec.upto movesRunsSpec)

/-- 'octavolaw20.MovesStash', WHERE WHAT IT READS IS OF BULK AT MOST 1048576: true; the input reads as it did. -/
def movesStashUptoRow : OpenClaim := { program := "yteceephenfmdoaa", sum := "15132cb50bd31036b45d9281cf57a68423440123c87972993c8316855cc417f1", func := "octavo/octavolaw20.MovesStash", spec := "movesStash", inPlace := ["internal/reflectlite.ValueOf", "internal/reflectlite.Swapper", "(internal/reflectlite.Value).Len"], unfollowed := true, recurses := true, apart := false, narrowed := true }
def MovesStashUptoSaid : Prop := movesStashUptoRow.holds Try.pinned (OpenSpec.upto movesStashSpec)

/-- 'octavolaw20.MovesOrder', WHERE WHAT IT READS IS OF BULK AT MOST 1048576: true; the input reads as it did. -/
def movesOrderUptoRow : OpenClaim := { program := "yteceephenfmdoaa", sum := "15132cb50bd31036b45d9281cf57a68423440123c87972993c8316855cc417f1", func := "octavo/octavolaw20.MovesOrder", spec := "movesOrder", inPlace := ["internal/reflectlite.ValueOf", "internal/reflectlite.Swapper", "(internal/reflectlite.Value).Len"], unfollowed := true, recurses := true, apart := false, narrowed := true }
def MovesOrderUptoSaid : Prop := movesOrderUptoRow.holds Try.pinned (OpenSpec.upto movesOrderSpec)

/-- 'octavolaw20.MovesTurned', WHERE WHAT IT READS IS OF BULK AT MOST 1048576: true; the input reads as it did. -/
def movesTurnedUptoRow : OpenClaim := { program := "yteceephenfmdoaa", sum := "15132cb50bd31036b45d9281cf57a68423440123c87972993c8316855cc417f1", func := "octavo/octavolaw20.MovesTurned", spec := "movesTurned", inPlace := ["internal/reflectlite.ValueOf", "internal/reflectlite.Swapper", "(internal/reflectlite.Value).Len"], unfollowed := true, recurses := true, apart := false, narrowed := true }
def MovesTurnedUptoSaid : Prop := movesTurnedUptoRow.holds Try.pinned (OpenSpec.upto movesTurnedSpec)

/-- 'octavolaw20.MovesEnds', WHERE WHAT IT READS IS OF BULK AT MOST 1048576: true; the input reads as it did. -/
def movesEndsUptoRow : OpenClaim := { program := "yteceephenfmdoaa", sum := "15132cb50bd31036b45d9281cf57a68423440123c87972993c8316855cc417f1", func := "octavo/octavolaw20.MovesEnds", spec := "movesEnds", inPlace := ["internal/reflectlite.ValueOf", "internal/reflectlite.Swapper", "(internal/reflectlite.Value).Len"], unfollowed := true, recurses := true, apart := false, narrowed := true }
def MovesEndsUptoSaid : Prop := movesEndsUptoRow.holds Try.pinned (OpenSpec.upto movesEndsSpec)

end Rows
end Go.Proofs.Yteceephenfmdoaa
