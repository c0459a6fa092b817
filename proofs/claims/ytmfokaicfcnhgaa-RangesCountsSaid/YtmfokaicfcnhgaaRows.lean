/-
  No cell of these rows narrows 'for every input' (looked for: loops, veiled, ifaces, maps, wideKeys, modest, calm, conditions, laid).
  DERIVED. THE GIVEN ROWS OF THIS SEAT. 8 by the template 'for every input the law returns true; each argument reads behind the call as it read before'; 0 by the template 'total and deterministic' (their statements: YtmfokaicfcnhgaaTotals.lean).
  GIVEN WITH THE SEED: the statements are not yours to turn. If you find one false, say at which input.
  Laid BY PROGRAM, IN A SANDBOX (cutbox-rows.mjs): the forced cells as the released guide's own fill.sh prints them over the translation 8b7110218da68b7b… (all of the seat's roots in one cut). By AI agents, Wed Nov 11 2026. No macro, syntax, notation, axiom, sorry.
-/
import Derived.Test.YtmfokaicfcnhgaaChecked
import GoSem.Claim
import GoSem.ClaimJoined
import GoSem.ClaimMapViews
import Derived.JoinedTies
import Derived.KernelRfl
namespace Go.Proofs.Ytmfokaicfcnhgaa
/- THE CELL 'sum', in the pinned program and in every row, IS THE sha256 OF THE DUMP (.gsa) THAT YtmfokaicfcnhgaaProg.lean LOADS. Nothing in Lean hashes anything: it is a label: what it is worth is what the hold of that sum in a sandbox is worth. -/
noncomputable def Try.pinned : Pinned := { name := "ytmfokaicfcnhgaa", sum := "8b7110218da68b7b5f9ed03e4e3c6c823951e8992bbf6d577333d0c95e1ef84a", checked := Try.checked }
namespace Rows
def none {H : Type} : Left H := { results := [], args := [] }

/-- 'octavolaw03.RangesNormal': WHATEVER THE INPUT: true; the input reads as it did. -/
def rangesNormalSpec : ChangeSpec := { name := "rangesNormal", fn := fun _ => fun
  | [d] => { results := [.lit (.bool true)], args := [d] }
  | _ => none }
def rangesNormalRow : OpenClaim := { program := "ytmfokaicfcnhgaa", sum := "8b7110218da68b7b5f9ed03e4e3c6c823951e8992bbf6d577333d0c95e1ef84a", func := "octavo/octavolaw03.RangesNormal", spec := "rangesNormal", inPlace := ["internal/reflectlite.ValueOf", "internal/reflectlite.Swapper", "(internal/reflectlite.Value).Len"], unfollowed := true, recurses := true, apart := false }
def RangesNormalSaid : Prop := rangesNormalRow.holds Try.pinned (OpenSpec.ofChange rangesNormalSpec)

/-- ITS FALSE NEIGHBOUR: 'it returns false'. Refute it at one input. -/
def rangesNormalWrong : ChangeSpec := { name := "rangesNormal", fn := fun _ => fun
  | [d] => { results := [.lit (.bool false)], args := [d] }
  | _ => none }
def RangesNormalWrongFalsely : Prop := rangesNormalRow.holds Try.pinned (OpenSpec.ofChange rangesNormalWrong)

/-- 'octavolaw03.RangesMoved': WHATEVER THE INPUT: true; the input reads as it did. -/
def rangesMovedSpec : ChangeSpec := { name := "rangesMoved", fn := fun _ => fun
  | [d1, d2] => { results := [.lit (.bool true)], args := [d1, d2] }
  | _ => none }
def rangesMovedRow : OpenClaim := { program := "ytmfokaicfcnhgaa", sum := "8b7110218da68b7b5f9ed03e4e3c6c823951e8992bbf6d577333d0c95e1ef84a", func := "octavo/octavolaw03.RangesMoved", spec := "rangesMoved", inPlace := ["internal/reflectlite.ValueOf", "internal/reflectlite.Swapper", "(internal/reflectlite.Value).Len"], unfollowed := true, recurses := true, apart := false }
def RangesMovedSaid : Prop := rangesMovedRow.holds Try.pinned (OpenSpec.ofChange rangesMovedSpec)

/-- ITS FALSE NEIGHBOUR: 'it returns false'. Refute it at one input. -/
def rangesMovedWrong : ChangeSpec := { name := "rangesMoved", fn := fun _ => fun
  | [d1, d2] => { results := [.lit (.bool false)], args := [d1, d2] }
  | _ => none }
def RangesMovedWrongFalsely : Prop := rangesMovedRow.holds Try.pinned (OpenSpec.ofChange rangesMovedWrong)

/-- 'octavolaw03.RangesCounts': WHATEVER THE INPUT: true; the input reads as it did. -/
def rangesCountsSpec : ChangeSpec := { name := "rangesCounts", fn := fun _ => fun
  | [d] => { results := [.lit (.bool true)], args := [d] }
  | _ => none }
def rangesCountsRow : OpenClaim := { program := "ytmfokaicfcnhgaa", sum := "8b7110218da68b7b5f9ed03e4e3c6c823951e8992bbf6d577333d0c95e1ef84a", func := "octavo/octavolaw03.RangesCounts", spec := "rangesCounts", inPlace := ["internal/reflectlite.ValueOf", "internal/reflectlite.Swapper", "(internal/reflectlite.Value).Len"], unfollowed := true, recurses := true, apart := false }
def RangesCountsSaid : Prop := rangesCountsRow.holds Try.pinned (OpenSpec.ofChange rangesCountsSpec)

/-- ITS FALSE NEIGHBOUR: 'it returns false'. Refute it at one input. -/
def rangesCountsWrong : ChangeSpec := { name := "rangesCounts", fn := fun _ => fun
  | [d] => { results := [.lit (.bool false)], args := [d] }
  | _ => none }
def RangesCountsWrongFalsely : Prop := rangesCountsRow.holds Try.pinned (OpenSpec.ofChange rangesCountsWrong)

/-- 'octavolaw03.RangesMixes': WHATEVER THE INPUT: true; the input reads as it did. -/
def rangesMixesSpec : ChangeSpec := { name := "rangesMixes", fn := fun _ => fun
  | [d1, d2] => { results := [.lit (.bool true)], args := [d1, d2] }
  | _ => none }
def rangesMixesRow : OpenClaim := { program := "ytmfokaicfcnhgaa", sum := "8b7110218da68b7b5f9ed03e4e3c6c823951e8992bbf6d577333d0c95e1ef84a", func := "octavo/octavolaw03.RangesMixes", spec := "rangesMixes", inPlace := ["internal/reflectlite.ValueOf", "internal/reflectlite.Swapper", "(internal/reflectlite.Value).Len"], unfollowed := true, recurses := true, apart := false }
def RangesMixesSaid : Prop := rangesMixesRow.holds Try.pinned (OpenSpec.ofChange rangesMixesSpec)

/-- ITS FALSE NEIGHBOUR: 'it returns false'. Refute it at one input. -/
def rangesMixesWrong : ChangeSpec := { name := "rangesMixes", fn := fun _ => fun
  | [d1, d2] => { results := [.lit (.bool false)], args := [d1, d2] }
  | _ => none }
def RangesMixesWrongFalsely : Prop := rangesMixesRow.holds Try.pinned (OpenSpec.ofChange rangesMixesWrong)

/-- 'octavolaw03.RangesAsks': WHATEVER THE INPUT: true; the input reads as it did. -/
def rangesAsksSpec : ChangeSpec := { name := "rangesAsks", fn := fun _ => fun
  | [d1, d2] => { results := [.lit (.bool true)], args := [d1, d2] }
  | _ => none }
def rangesAsksRow : OpenClaim := { program := "ytmfokaicfcnhgaa", sum := "8b7110218da68b7b5f9ed03e4e3c6c823951e8992bbf6d577333d0c95e1ef84a", func := "octavo/octavolaw03.RangesAsks", spec := "rangesAsks", inPlace := ["internal/reflectlite.ValueOf", "internal/reflectlite.Swapper", "(internal/reflectlite.Value).Len"], unfollowed := true, recurses := true, apart := false }
def RangesAsksSaid : Prop := rangesAsksRow.holds Try.pinned (OpenSpec.ofChange rangesAsksSpec)

/-- ITS FALSE NEIGHBOUR: 'it returns false'. Refute it at one input. -/
def rangesAsksWrong : ChangeSpec := { name := "rangesAsks", fn := fun _ => fun
  | [d1, d2] => { results := [.lit (.bool false)], args := [d1, d2] }
  | _ => none }
def RangesAsksWrongFalsely : Prop := rangesAsksRow.holds Try.pinned (OpenSpec.ofChange rangesAsksWrong)

/-- 'octavolaw03.RangesTurned': WHATEVER THE INPUT: true; the input reads as it did. -/
def rangesTurnedSpec : ChangeSpec := { name := "rangesTurned", fn := fun _ => fun
  | [d1, d2, d3] => { results := [.lit (.bool true)], args := [d1, d2, d3] }
  | _ => none }
def rangesTurnedRow : OpenClaim := { program := "ytmfokaicfcnhgaa", sum := "8b7110218da68b7b5f9ed03e4e3c6c823951e8992bbf6d577333d0c95e1ef84a", func := "octavo/octavolaw03.RangesTurned", spec := "rangesTurned", inPlace := ["internal/reflectlite.ValueOf", "internal/reflectlite.Swapper", "(internal/reflectlite.Value).Len"], unfollowed := true, recurses := true, apart := false }
def RangesTurnedSaid : Prop := rangesTurnedRow.holds Try.pinned (OpenSpec.ofChange rangesTurnedSpec)

/-- ITS FALSE NEIGHBOUR: 'it returns false'. Refute it at one input. -/
def rangesTurnedWrong : ChangeSpec := { name := "rangesTurned", fn := fun _ => fun
  | [d1, d2, d3] => { results := [.lit (.bool false)], args := [d1, d2, d3] }
  | _ => none }
def RangesTurnedWrongFalsely : Prop := rangesTurnedRow.holds Try.pinned (OpenSpec.ofChange rangesTurnedWrong)

/-- 'octavolaw03.RangesSets': WHATEVER THE INPUT: true; the input reads as it did. -/
def rangesSetsSpec : ChangeSpec := { name := "rangesSets", fn := fun _ => fun
  | [d1, d2, d3] => { results := [.lit (.bool true)], args := [d1, d2, d3] }
  | _ => none }
def rangesSetsRow : OpenClaim := { program := "ytmfokaicfcnhgaa", sum := "8b7110218da68b7b5f9ed03e4e3c6c823951e8992bbf6d577333d0c95e1ef84a", func := "octavo/octavolaw03.RangesSets", spec := "rangesSets", inPlace := ["internal/reflectlite.ValueOf", "internal/reflectlite.Swapper", "(internal/reflectlite.Value).Len"], unfollowed := true, recurses := true, apart := false }
def RangesSetsSaid : Prop := rangesSetsRow.holds Try.pinned (OpenSpec.ofChange rangesSetsSpec)

/-- ITS FALSE NEIGHBOUR: 'it returns false'. Refute it at one input. -/
def rangesSetsWrong : ChangeSpec := { name := "rangesSets", fn := fun _ => fun
  | [d1, d2, d3] => { results := [.lit (.bool false)], args := [d1, d2, d3] }
  | _ => none }
def RangesSetsWrongFalsely : Prop := rangesSetsRow.holds Try.pinned (OpenSpec.ofChange rangesSetsWrong)

/-- 'octavolaw03.RangesFits': WHATEVER THE INPUT: true; the input reads as it did. -/
def rangesFitsSpec : ChangeSpec := { name := "rangesFits", fn := fun _ => fun
  | [d1, d2] => { results := [.lit (.bool true)], args := [d1, d2] }
  | _ => none }
def rangesFitsRow : OpenClaim := { program := "ytmfokaicfcnhgaa", sum := "8b7110218da68b7b5f9ed03e4e3c6c823951e8992bbf6d577333d0c95e1ef84a", func := "octavo/octavolaw03.RangesFits", spec := "rangesFits", inPlace := ["internal/reflectlite.ValueOf", "internal/reflectlite.Swapper", "(internal/reflectlite.Value).Len"], unfollowed := true, recurses := true, apart := false }
def RangesFitsSaid : Prop := rangesFitsRow.holds Try.pinned (OpenSpec.ofChange rangesFitsSpec)

/-- ITS FALSE NEIGHBOUR: 'it returns false'. Refute it at one input. -/
def rangesFitsWrong : ChangeSpec := { name := "rangesFits", fn := fun _ => fun
  | [d1, d2] => { results := [.lit (.bool false)], args := [d1, d2] }
  | _ => none }
def RangesFitsWrongFalsely : Prop := rangesFitsRow.holds Try.pinned (OpenSpec.ofChange rangesFitsWrong)

/- THE SECOND FORM. 'bulk': how many values and letters a reading holds, each counted each time it is reached (what is shared counts as often as it is met; a slice's spare places count too). A statement '..UptoSaid' is the law's where the arguments, and the package variables that the reading takes, are together of bulk at most 1048576: NARROWER than '..Said'. Prove '..Said' where nothing that the law and all that it calls make is longer than what came in: it says more and counts as full. Else prove '..UptoSaid'. A law counts once. -/
mutual
def uptoBulk {H : Type} : DataW H → Nat
  | .lit (.string bytes) => bytes.length + 1
  | .lit _ => 1
  | .nil => 1
  | .ptr d => uptoBulk d + 1
  | .slice elems spare => uptoBulkAll elems + uptoBulkAll spare + 1
  | .agg parts => uptoBulkAll parts + 1
  | .iface _ d => uptoBulk d + 1
  | .map entries => uptoBulkEntries entries + 1
  | .held _ => 1
def uptoBulkAll {H : Type} : List (DataW H) → Nat
  | [] => 0
  | d :: r => uptoBulk d + uptoBulkAll r
def uptoBulkEntries {H : Type} : List (Lit × DataW H) → Nat
  | [] => 0
  | x :: r => uptoBulkEntry x + uptoBulkEntries r
def uptoBulkEntry {H : Type} : Lit × DataW H → Nat
  | (.string bytes, d) => bytes.length + uptoBulk d + 1
  | (_, d) => uptoBulk d + 1
 end
def uptoSmall : (H : Type) → List (DataW H) → Bool := fun _ ds => decide (uptoBulkAll ds ≤ 1048576)
def OpenSpec.upto (s : _root_.Go.ChangeSpec) : _root_.Go.OpenSpec := { _root_.Go.OpenSpec.ofChange s with cond := some uptoSmall }

/-- 'octavolaw03.RangesNormal', WHERE WHAT IT READS IS OF BULK AT MOST 1048576: true; the input reads as it did. -/
def rangesNormalUptoRow : OpenClaim := { program := "ytmfokaicfcnhgaa", sum := "8b7110218da68b7b5f9ed03e4e3c6c823951e8992bbf6d577333d0c95e1ef84a", func := "octavo/octavolaw03.RangesNormal", spec := "rangesNormal", inPlace := ["internal/reflectlite.ValueOf", "internal/reflectlite.Swapper", "(internal/reflectlite.Value).Len"], unfollowed := true, recurses := true, apart := false, narrowed := true }
def RangesNormalUptoSaid : Prop := rangesNormalUptoRow.holds Try.pinned (OpenSpec.upto rangesNormalSpec)

/-- 'octavolaw03.RangesMoved', WHERE WHAT IT READS IS OF BULK AT MOST 1048576: true; the input reads as it did. -/
def rangesMovedUptoRow : OpenClaim := { program := "ytmfokaicfcnhgaa", sum := "8b7110218da68b7b5f9ed03e4e3c6c823951e8992bbf6d577333d0c95e1ef84a", func := "octavo/octavolaw03.RangesMoved", spec := "rangesMoved", inPlace := ["internal/reflectlite.ValueOf", "internal/reflectlite.Swapper", "(internal/reflectlite.Value).Len"], unfollowed := true, recurses := true, apart := false, narrowed := true }
def RangesMovedUptoSaid : Prop := rangesMovedUptoRow.holds Try.pinned (OpenSpec.upto rangesMovedSpec)

/-- 'octavolaw03.RangesCounts', WHERE WHAT IT READS IS OF BULK AT MOST 1048576: true; the input reads as it did. -/
def rangesCountsUptoRow : OpenClaim := { program := "ytmfokaicfcnhgaa", sum := "8b7110218da68b7b5f9ed03e4e3c6c823951e8992bbf6d577333d0c95e1ef84a", func := "octavo/octavolaw03.RangesCounts", spec := "rangesCounts", inPlace := ["internal/reflectlite.ValueOf", "internal/reflectlite.Swapper", "(internal/reflectlite.Value).Len"], unfollowed := true, recurses := true, apart := false, narrowed := true }
def RangesCountsUptoSaid : Prop := rangesCountsUptoRow.holds Try.pinned (OpenSpec.upto rangesCountsSpec)

/-- 'octavolaw03.RangesMixes', WHERE WHAT IT READS IS OF BULK AT MOST 1048576: true; the input reads as it did. -/
def rangesMixesUptoRow : OpenClaim := { program := "ytmfokaicfcnhgaa", sum := "8b7110218da68b7b5f9ed03e4e3c6c823951e8992bbf6d577333d0c95e1ef84a", func := "octavo/octavolaw03.RangesMixes", spec := "rangesMixes", inPlace := ["internal/reflectlite.ValueOf", "internal/reflectlite.Swapper", "(internal/reflectlite.Value).Len"], unfollowed := true, recurses := true, apart := false, narrowed := true }
def RangesMixesUptoSaid : Prop := rangesMixesUptoRow.holds Try.pinned (OpenSpec.upto rangesMixesSpec)

/-- 'octavolaw03.RangesAsks', WHERE WHAT IT READS IS OF BULK AT MOST 1048576: true; the input reads as it did. -/
def rangesAsksUptoRow : OpenClaim := { program := "ytmfokaicfcnhgaa", sum := "8b7110218da68b7b5f9ed03e4e3c6c823951e8992bbf6d577333d0c95e1ef84a", func := "octavo/octavolaw03.RangesAsks", spec := "rangesAsks", inPlace := ["internal/reflectlite.ValueOf", "internal/reflectlite.Swapper", "(internal/reflectlite.Value).Len"], unfollowed := true, recurses := true, apart := false, narrowed := true }
def RangesAsksUptoSaid : Prop := rangesAsksUptoRow.holds Try.pinned (OpenSpec.upto rangesAsksSpec)

/-- 'octavolaw03.RangesTurned', WHERE WHAT IT READS IS OF BULK AT MOST 1048576: true; the input reads as it did. -/
def rangesTurnedUptoRow : OpenClaim := { program := "ytmfokaicfcnhgaa", sum := "8b7110218da68b7b5f9ed03e4e3c6c823951e8992bbf6d577333d0c95e1ef84a", func := "octavo/octavolaw03.RangesTurned", spec := "rangesTurned", inPlace := ["internal/reflectlite.ValueOf", "internal/reflectlite.Swapper", "(internal/reflectlite.Value).Len"], unfollowed := true, recurses := true, apart := false, narrowed := true }
def RangesTurnedUptoSaid : Prop := rangesTurnedUptoRow.holds Try.pinned (OpenSpec.upto rangesTurnedSpec)

/-- 'octavolaw03.RangesSets', WHERE WHAT IT READS IS OF BULK AT MOST 1048576: true; the input reads as it did. -/
def rangesSetsUptoRow : OpenClaim := { program := "ytmfokaicfcnhgaa", sum := "8b7110218da68b7b5f9ed03e4e3c6c823951e8992bbf6d577333d0c95e1ef84a", func := "octavo/octavolaw03.RangesSets", spec := "rangesSets", inPlace := ["internal/reflectlite.ValueOf", "internal/reflectlite.Swapper", "(internal/reflectlite.Value).Len"], unfollowed := true, recurses := true, apart := false, narrowed := true }
def RangesSetsUptoSaid : Prop := rangesSetsUptoRow.holds Try.pinned (OpenSpec.upto rangesSetsSpec)

/-- 'octavolaw03.RangesFits', WHERE WHAT IT READS IS OF BULK AT MOST 1048576: true; the input reads as it did. -/
def rangesFitsUptoRow : OpenClaim := { program := "ytmfokaicfcnhgaa", sum := "8b7110218da68b7b5f9ed03e4e3c6c823951e8992bbf6d577333d0c95e1ef84a", func := "octavo/octavolaw03.RangesFits", spec := "rangesFits", inPlace := ["internal/reflectlite.ValueOf", "internal/reflectlite.Swapper", "(internal/reflectlite.Value).Len"], unfollowed := true, recurses := true, apart := false, narrowed := true }
def RangesFitsUptoSaid : Prop := rangesFitsUptoRow.holds Try.pinned (OpenSpec.upto rangesFitsSpec)

end Rows
end Go.Proofs.Ytmfokaicfcnhgaa
