/-
  No cell of these rows narrows 'for every input' (looked for: loops, veiled, ifaces, maps, wideKeys, modest, calm, conditions, laid).
  DERIVED. THE GIVEN ROWS OF THIS SEAT. 4 by the template 'for every input the law returns true; each argument reads behind the call as it read before'; 0 by the template 'total and deterministic' (their statements: YtnfipflodhnbhaaTotals.lean).
  GIVEN WITH THE SEED: the statements are not yours to turn. If you find one false, say at which input.
  Laid BY PROGRAM, IN A SANDBOX (cutbox-rows.mjs): the forced cells as the released guide's own fill.sh prints them over the translation 2a82c68607a9497a… (all of the seat's roots in one cut). By AI agents, Wed Nov 11 2026. No macro, syntax, notation, axiom, sorry.
-/
import Derived.Test.YtnfipflodhnbhaaChecked
import GoSem.Claim
import GoSem.ClaimJoined
import GoSem.ClaimMapViews
import Derived.JoinedTies
import Derived.KernelRfl
namespace Go.Proofs.Ytnfipflodhnbhaa
/- THE CELL 'sum', in the pinned program and in every row, IS THE sha256 OF THE DUMP (.gsa) THAT YtnfipflodhnbhaaProg.lean LOADS. Nothing in Lean hashes anything: it is a label: what it is worth is what the hold of that sum in a sandbox is worth. -/
noncomputable def Try.pinned : Pinned := { name := "ytnfipflodhnbhaa", sum := "2a82c68607a9497adecbcce1c352d4ba3b10b34f03f74caa9094a947b816d9cf", checked := Try.checked }
namespace Rows
def none {H : Type} : Left H := { results := [], args := [] }

/-- 'octavolaw11.EolBack': WHATEVER THE INPUT: true; the input reads as it did. -/
def eolBackSpec : ChangeSpec := { name := "eolBack", fn := fun _ => fun
  | [d1, d2] => { results := [.lit (.bool true)], args := [d1, d2] }
  | _ => none }
def eolBackRow : OpenClaim := { program := "ytnfipflodhnbhaa", sum := "2a82c68607a9497adecbcce1c352d4ba3b10b34f03f74caa9094a947b816d9cf", func := "octavo/octavolaw11.EolBack", spec := "eolBack", inPlace := ["internal/bytealg.Count", "internal/bytealg.IndexByte", "internal/bytealg.Index"], named := ["internal/bytealg.MaxLen"], apart := false }
def EolBackSaid : Prop := eolBackRow.holds Try.pinned (OpenSpec.ofChange eolBackSpec)

/-- ITS FALSE NEIGHBOUR: 'it returns false'. Refute it at one input. -/
def eolBackWrong : ChangeSpec := { name := "eolBack", fn := fun _ => fun
  | [d1, d2] => { results := [.lit (.bool false)], args := [d1, d2] }
  | _ => none }
def EolBackWrongFalsely : Prop := eolBackRow.holds Try.pinned (OpenSpec.ofChange eolBackWrong)

/-- 'octavolaw11.EolBetween': WHATEVER THE INPUT: true; the input reads as it did. -/
def eolBetweenSpec : ChangeSpec := { name := "eolBetween", fn := fun _ => fun
  | [d] => { results := [.lit (.bool true)], args := [d] }
  | _ => none }
def eolBetweenRow : OpenClaim := { program := "ytnfipflodhnbhaa", sum := "2a82c68607a9497adecbcce1c352d4ba3b10b34f03f74caa9094a947b816d9cf", func := "octavo/octavolaw11.EolBetween", spec := "eolBetween", inPlace := ["internal/bytealg.Count", "internal/bytealg.IndexByte", "internal/bytealg.Index"], named := ["internal/bytealg.MaxLen"], apart := false }
def EolBetweenSaid : Prop := eolBetweenRow.holds Try.pinned (OpenSpec.ofChange eolBetweenSpec)

/-- ITS FALSE NEIGHBOUR: 'it returns false'. Refute it at one input. -/
def eolBetweenWrong : ChangeSpec := { name := "eolBetween", fn := fun _ => fun
  | [d] => { results := [.lit (.bool false)], args := [d] }
  | _ => none }
def EolBetweenWrongFalsely : Prop := eolBetweenRow.holds Try.pinned (OpenSpec.ofChange eolBetweenWrong)

/-- 'octavolaw11.EolAsks': WHATEVER THE INPUT: true; the input reads as it did. -/
def eolAsksSpec : ChangeSpec := { name := "eolAsks", fn := fun _ => fun
  | [d1, d2] => { results := [.lit (.bool true)], args := [d1, d2] }
  | _ => none }
def eolAsksRow : OpenClaim := { program := "ytnfipflodhnbhaa", sum := "2a82c68607a9497adecbcce1c352d4ba3b10b34f03f74caa9094a947b816d9cf", func := "octavo/octavolaw11.EolAsks", spec := "eolAsks", inPlace := ["internal/bytealg.Count", "internal/bytealg.IndexByte", "internal/bytealg.Index"], named := ["internal/bytealg.MaxLen"], apart := false }
def EolAsksSaid : Prop := eolAsksRow.holds Try.pinned (OpenSpec.ofChange eolAsksSpec)

/-- ITS FALSE NEIGHBOUR: 'it returns false'. Refute it at one input. -/
def eolAsksWrong : ChangeSpec := { name := "eolAsks", fn := fun _ => fun
  | [d1, d2] => { results := [.lit (.bool false)], args := [d1, d2] }
  | _ => none }
def EolAsksWrongFalsely : Prop := eolAsksRow.holds Try.pinned (OpenSpec.ofChange eolAsksWrong)

/-- 'octavolaw11.EolJoins': WHATEVER THE INPUT: true; the input reads as it did. -/
def eolJoinsSpec : ChangeSpec := { name := "eolJoins", fn := fun _ => fun
  | [d1, d2] => { results := [.lit (.bool true)], args := [d1, d2] }
  | _ => none }
def eolJoinsRow : OpenClaim := { program := "ytnfipflodhnbhaa", sum := "2a82c68607a9497adecbcce1c352d4ba3b10b34f03f74caa9094a947b816d9cf", func := "octavo/octavolaw11.EolJoins", spec := "eolJoins", inPlace := ["internal/bytealg.Count", "internal/bytealg.IndexByte", "internal/bytealg.Index"], named := ["internal/bytealg.MaxLen"], apart := false }
def EolJoinsSaid : Prop := eolJoinsRow.holds Try.pinned (OpenSpec.ofChange eolJoinsSpec)

/-- ITS FALSE NEIGHBOUR: 'it returns false'. Refute it at one input. -/
def eolJoinsWrong : ChangeSpec := { name := "eolJoins", fn := fun _ => fun
  | [d1, d2] => { results := [.lit (.bool false)], args := [d1, d2] }
  | _ => none }
def EolJoinsWrongFalsely : Prop := eolJoinsRow.holds Try.pinned (OpenSpec.ofChange eolJoinsWrong)

/- THE SECOND FORM. 'bulk': how many values and letters a reading holds, each counted each time it is reached (what is shared counts as often as it is met; a slice's spare places count too). A statement '..UptoSaid' is the law's where the arguments, and the package variables that the reading takes, are together of bulk at most 1048576: NARROWER than '..Said'. Prove '..Said' where nothing that the law and all that it calls make is longer than what came in: it says more and counts as full. Else prove '..UptoSaid'. A law counts once. -/
mutual
def uptoBulk {H : Type} : DataW H → Nat
  | .lit (.string bytes) => bytes.length + 1
  | .lit _ => 1
  | .nil => 1
  | .ptr d => uptoBulk d + 1
  | .slice elems spare => uptoBulkAll elems + uptoBulkAll spare + 1
  | .agg parts => uptoBulkAll parts + 1
  | .iface _ d => uptoBulk d + 1
  | .map entries => uptoBulkEntries entries + 1
  | .held _ => 1
def uptoBulkAll {H : Type} : List (DataW H) → Nat
  | [] => 0
  | d :: r => uptoBulk d + uptoBulkAll r
def uptoBulkEntries {H : Type} : List (Lit × DataW H) → Nat
  | [] => 0
  | x :: r => uptoBulkEntry x + uptoBulkEntries r
def uptoBulkEntry {H : Type} : Lit × DataW H → Nat
  | (.string bytes, d) => bytes.length + uptoBulk d + 1
  | (_, d) => uptoBulk d + 1
 end
def uptoSmall : (H : Type) → List (DataW H) → Bool := fun _ ds => decide (uptoBulkAll ds ≤ 1048576)
def OpenSpec.upto (s : _root_.Go.ChangeSpec) : _root_.Go.OpenSpec := { _root_.Go.OpenSpec.ofChange s with cond := some uptoSmall }

/-- 'octavolaw11.EolBack', WHERE WHAT IT READS IS OF BULK AT MOST 1048576: true; the input reads as it did. -/
def eolBackUptoRow : OpenClaim := { program := "ytnfipflodhnbhaa", sum := "2a82c68607a9497adecbcce1c352d4ba3b10b34f03f74caa9094a947b816d9cf", func := "octavo/octavolaw11.EolBack", spec := "eolBack", inPlace := ["internal/bytealg.Count", "internal/bytealg.IndexByte", "internal/bytealg.Index"], named := ["internal/bytealg.MaxLen"], apart := false, narrowed := true }
def EolBackUptoSaid : Prop := eolBackUptoRow.holds Try.pinned (OpenSpec.upto eolBackSpec)

/-- 'octavolaw11.EolBetween', WHERE WHAT IT READS IS OF BULK AT MOST 1048576: true; the input reads as it did. -/
def eolBetweenUptoRow : OpenClaim := { program := "ytnfipflodhnbhaa", sum := "2a82c68607a9497adecbcce1c352d4ba3b10b34f03f74caa9094a947b816d9cf", func := "octavo/octavolaw11.EolBetween", spec := "eolBetween", inPlace := ["internal/bytealg.Count", "internal/bytealg.IndexByte", "internal/bytealg.Index"], named := ["internal/bytealg.MaxLen"], apart := false, narrowed := true }
def EolBetweenUptoSaid : Prop := eolBetweenUptoRow.holds Try.pinned (OpenSpec.upto eolBetweenSpec)

/-- 'octavolaw11.EolAsks', WHERE WHAT IT READS IS OF BULK AT MOST 1048576: true; the input reads as it did. -/
def eolAsksUptoRow : OpenClaim := { program := "ytnfipflodhnbhaa", sum := "2a82c68607a9497adecbcce1c352d4ba3b10b34f03f74caa9094a947b816d9cf", func := "octavo/octavolaw11.EolAsks", spec := "eolAsks", inPlace := ["internal/bytealg.Count", "internal/bytealg.IndexByte", "internal/bytealg.Index"], named := ["internal/bytealg.MaxLen"], apart := false, narrowed := true }
def EolAsksUptoSaid : Prop := eolAsksUptoRow.holds Try.pinned (OpenSpec.upto eolAsksSpec)

/-- 'octavolaw11.EolJoins', WHERE WHAT IT READS IS OF BULK AT MOST 1048576: true; the input reads as it did. -/
def eolJoinsUptoRow : OpenClaim := { program := "ytnfipflodhnbhaa", sum := "2a82c68607a9497adecbcce1c352d4ba3b10b34f03f74caa9094a947b816d9cf", func := "octavo/octavolaw11.EolJoins", spec := "eolJoins", inPlace := ["internal/bytealg.Count", "internal/bytealg.IndexByte", "internal/bytealg.Index"], named := ["internal/bytealg.MaxLen"], apart := false, narrowed := true }
def EolJoinsUptoSaid : Prop := eolJoinsUptoRow.holds Try.pinned (OpenSpec.upto eolJoinsSpec)

end Rows
end Go.Proofs.Ytnfipflodhnbhaa
