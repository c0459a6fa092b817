/-
  No cell of these rows narrows 'for every input' (looked for: loops, veiled, ifaces, maps, wideKeys, modest, calm, conditions, laid).
  DERIVED. THE GIVEN ROWS OF THIS SEAT. 5 by the template 'for every input the law returns true; each argument reads behind the call as it read before'; 0 by the template 'total and deterministic' (their statements: YtdpjblepcpjomaaTotals.lean).
  GIVEN WITH THE SEED: the statements are not yours to turn. If you find one false, say at which input.
  Laid BY PROGRAM, IN A SANDBOX (cutbox-rows.mjs): the forced cells as the released guide's own fill.sh prints them over the translation 45880e8481ac6eda… (all of the seat's roots in one cut). By AI agents, Wed Nov 11 2026. No macro, syntax, notation, axiom, sorry.
-/
import Derived.Test.YtdpjblepcpjomaaChecked
import GoSem.Claim
import GoSem.ClaimJoined
import GoSem.ClaimMapViews
import Derived.JoinedTies
import Derived.KernelRfl
namespace Go.Proofs.Ytdpjblepcpjomaa
/- THE CELL 'sum', in the pinned program and in every row, IS THE sha256 OF THE DUMP (.gsa) THAT YtdpjblepcpjomaaProg.lean LOADS. Nothing in Lean hashes anything: it is a label: what it is worth is what the hold of that sum in a sandbox is worth. -/
noncomputable def Try.pinned : Pinned := { name := "ytdpjblepcpjomaa", sum := "45880e8481ac6eda6ade617e8af4d42377914198a8cfc04d36cbde27cad0f926", checked := Try.checked }
namespace Rows
def none {H : Type} : Left H := { results := [], args := [] }

/-- 'octavolaw21.RebaseRescues': WHATEVER THE INPUT: true; the input reads as it did. -/
def rebaseRescuesSpec : ChangeSpec := { name := "rebaseRescues", fn := fun _ => fun
  | [d1, d2] => { results := [.lit (.bool true)], args := [d1, d2] }
  | _ => none }
def rebaseRescuesRow : OpenClaim := { program := "ytdpjblepcpjomaa", sum := "45880e8481ac6eda6ade617e8af4d42377914198a8cfc04d36cbde27cad0f926", func := "octavo/octavolaw21.RebaseRescues", spec := "rebaseRescues", inPlace := ["internal/reflectlite.ValueOf", "internal/reflectlite.Swapper", "(internal/reflectlite.Value).Len"], unfollowed := true, recurses := true, apart := false }
def RebaseRescuesSaid : Prop := rebaseRescuesRow.holds Try.pinned (OpenSpec.ofChange rebaseRescuesSpec)

/-- ITS FALSE NEIGHBOUR: 'it returns false'. Refute it at one input. -/
def rebaseRescuesWrong : ChangeSpec := { name := "rebaseRescues", fn := fun _ => fun
  | [d1, d2] => { results := [.lit (.bool false)], args := [d1, d2] }
  | _ => none }
def RebaseRescuesWrongFalsely : Prop := rebaseRescuesRow.holds Try.pinned (OpenSpec.ofChange rebaseRescuesWrong)

/-- 'octavolaw21.RebaseMoves': WHATEVER THE INPUT: true; the input reads as it did. -/
def rebaseMovesSpec : ChangeSpec := { name := "rebaseMoves", fn := fun _ => fun
  | [d1, d2, d3, d4] => { results := [.lit (.bool true)], args := [d1, d2, d3, d4] }
  | _ => none }
def rebaseMovesRow : OpenClaim := { program := "ytdpjblepcpjomaa", sum := "45880e8481ac6eda6ade617e8af4d42377914198a8cfc04d36cbde27cad0f926", func := "octavo/octavolaw21.RebaseMoves", spec := "rebaseMoves", inPlace := ["internal/reflectlite.ValueOf", "internal/reflectlite.Swapper", "(internal/reflectlite.Value).Len"], unfollowed := true, recurses := true, apart := false }
def RebaseMovesSaid : Prop := rebaseMovesRow.holds Try.pinned (OpenSpec.ofChange rebaseMovesSpec)

/-- ITS FALSE NEIGHBOUR: 'it returns false'. Refute it at one input. -/
def rebaseMovesWrong : ChangeSpec := { name := "rebaseMoves", fn := fun _ => fun
  | [d1, d2, d3, d4] => { results := [.lit (.bool false)], args := [d1, d2, d3, d4] }
  | _ => none }
def RebaseMovesWrongFalsely : Prop := rebaseMovesRow.holds Try.pinned (OpenSpec.ofChange rebaseMovesWrong)

/-- 'octavolaw21.RebaseTexts': WHATEVER THE INPUT: true; the input reads as it did. -/
def rebaseTextsSpec : ChangeSpec := { name := "rebaseTexts", fn := fun _ => fun
  | [d1, d2, d3] => { results := [.lit (.bool true)], args := [d1, d2, d3] }
  | _ => none }
def rebaseTextsRow : OpenClaim := { program := "ytdpjblepcpjomaa", sum := "45880e8481ac6eda6ade617e8af4d42377914198a8cfc04d36cbde27cad0f926", func := "octavo/octavolaw21.RebaseTexts", spec := "rebaseTexts", inPlace := ["internal/reflectlite.ValueOf", "internal/reflectlite.Swapper", "(internal/reflectlite.Value).Len"], unfollowed := true, recurses := true, apart := false }
def RebaseTextsSaid : Prop := rebaseTextsRow.holds Try.pinned (OpenSpec.ofChange rebaseTextsSpec)

/-- ITS FALSE NEIGHBOUR: 'it returns false'. Refute it at one input. -/
def rebaseTextsWrong : ChangeSpec := { name := "rebaseTexts", fn := fun _ => fun
  | [d1, d2, d3] => { results := [.lit (.bool false)], args := [d1, d2, d3] }
  | _ => none }
def RebaseTextsWrongFalsely : Prop := rebaseTextsRow.holds Try.pinned (OpenSpec.ofChange rebaseTextsWrong)

/-- 'octavolaw21.RebaseWhole': WHATEVER THE INPUT: true; the input reads as it did. -/
def rebaseWholeSpec : ChangeSpec := { name := "rebaseWhole", fn := fun _ => fun
  | [d1, d2] => { results := [.lit (.bool true)], args := [d1, d2] }
  | _ => none }
def rebaseWholeRow : OpenClaim := { program := "ytdpjblepcpjomaa", sum := "45880e8481ac6eda6ade617e8af4d42377914198a8cfc04d36cbde27cad0f926", func := "octavo/octavolaw21.RebaseWhole", spec := "rebaseWhole", inPlace := ["internal/reflectlite.ValueOf", "internal/reflectlite.Swapper", "(internal/reflectlite.Value).Len"], unfollowed := true, recurses := true, apart := false }
def RebaseWholeSaid : Prop := rebaseWholeRow.holds Try.pinned (OpenSpec.ofChange rebaseWholeSpec)

/-- ITS FALSE NEIGHBOUR: 'it returns false'. Refute it at one input. -/
def rebaseWholeWrong : ChangeSpec := { name := "rebaseWhole", fn := fun _ => fun
  | [d1, d2] => { results := [.lit (.bool false)], args := [d1, d2] }
  | _ => none }
def RebaseWholeWrongFalsely : Prop := rebaseWholeRow.holds Try.pinned (OpenSpec.ofChange rebaseWholeWrong)

/-- 'octavolaw21.RebaseTwice': WHATEVER THE INPUT: true; the input reads as it did. -/
def rebaseTwiceSpec : ChangeSpec := { name := "rebaseTwice", fn := fun _ => fun
  | [d1, d2, d3] => { results := [.lit (.bool true)], args := [d1, d2, d3] }
  | _ => none }
def rebaseTwiceRow : OpenClaim := { program := "ytdpjblepcpjomaa", sum := "45880e8481ac6eda6ade617e8af4d42377914198a8cfc04d36cbde27cad0f926", func := "octavo/octavolaw21.RebaseTwice", spec := "rebaseTwice", inPlace := ["internal/reflectlite.ValueOf", "internal/reflectlite.Swapper", "(internal/reflectlite.Value).Len"], unfollowed := true, recurses := true, apart := false }
def RebaseTwiceSaid : Prop := rebaseTwiceRow.holds Try.pinned (OpenSpec.ofChange rebaseTwiceSpec)

/-- ITS FALSE NEIGHBOUR: 'it returns false'. Refute it at one input. -/
def rebaseTwiceWrong : ChangeSpec := { name := "rebaseTwice", fn := fun _ => fun
  | [d1, d2, d3] => { results := [.lit (.bool false)], args := [d1, d2, d3] }
  | _ => none }
def RebaseTwiceWrongFalsely : Prop := rebaseTwiceRow.holds Try.pinned (OpenSpec.ofChange rebaseTwiceWrong)

/- THE SECOND FORM. 'bulk': how many values and letters a reading holds, each counted each time it is reached (what is shared counts as often as it is met; a slice's spare places count too). A statement '..UptoSaid' is the law's where the arguments, and the package variables that the reading takes, are together of bulk at most 1048576: NARROWER than '..Said'. Prove '..Said' where nothing that the law and all that it calls make is longer than what came in: it says more and counts as full. Else prove '..UptoSaid'. A law counts once. -/
mutual
def uptoBulk {H : Type} : DataW H → Nat
  | .lit (.string bytes) => bytes.length + 1
  | .lit _ => 1
  | .nil => 1
  | .ptr d => uptoBulk d + 1
  | .slice elems spare => uptoBulkAll elems + uptoBulkAll spare + 1
  | .agg parts => uptoBulkAll parts + 1
  | .iface _ d => uptoBulk d + 1
  | .map entries => uptoBulkEntries entries + 1
  | .held _ => 1
def uptoBulkAll {H : Type} : List (DataW H) → Nat
  | [] => 0
  | d :: r => uptoBulk d + uptoBulkAll r
def uptoBulkEntries {H : Type} : List (Lit × DataW H) → Nat
  | [] => 0
  | x :: r => uptoBulkEntry x + uptoBulkEntries r
def uptoBulkEntry {H : Type} : Lit × DataW H → Nat
  | (.string bytes, d) => bytes.length + uptoBulk d + 1
  | (_, d) => uptoBulk d + 1
 end
def uptoSmall : (H : Type) → List (DataW H) → Bool := fun _ ds => decide (uptoBulkAll ds ≤ 1048576)
def OpenSpec.upto (s : _root_.Go.ChangeSpec) : _root_.Go.OpenSpec := { _root_.Go.OpenSpec.ofChange s with cond := some uptoSmall }

/-- 'octavolaw21.RebaseRescues', WHERE WHAT IT READS IS OF BULK AT MOST 1048576: true; the input reads as it did. -/
def rebaseRescuesUptoRow : OpenClaim := { program := "ytdpjblepcpjomaa", sum := "45880e8481ac6eda6ade617e8af4d42377914198a8cfc04d36cbde27cad0f926", func := "octavo/octavolaw21.RebaseRescues", spec := "rebaseRescues", inPlace := ["internal/reflectlite.ValueOf", "internal/reflectlite.Swapper", "(internal/reflectlite.Value).Len"], unfollowed := true, recurses := true, apart := false, narrowed := true }
def RebaseRescuesUptoSaid : Prop := rebaseRescuesUptoRow.holds Try.pinned (OpenSpec.upto rebaseRescuesSpec)

/-- 'octavolaw21.RebaseMoves', WHERE WHAT IT READS IS OF BULK AT MOST 1048576: true; the input reads as it did. -/
def rebaseMovesUptoRow : OpenClaim := { program := "ytdpjblepcpjomaa", sum := "45880e8481ac6eda6ade617e8af4d42377914198a8cfc04d36cbde27cad0f926", func := "octavo/octavolaw21.RebaseMoves", spec := "rebaseMoves", inPlace := ["internal/reflectlite.ValueOf", "internal/reflectlite.Swapper", "(internal/reflectlite.Value).Len"], unfollowed := true, recurses := true, apart := false, narrowed := true }
def RebaseMovesUptoSaid : Prop := rebaseMovesUptoRow.holds Try.pinned (OpenSpec.upto rebaseMovesSpec)

/-- 'octavolaw21.RebaseTexts', WHERE WHAT IT READS IS OF BULK AT MOST 1048576: true; the input reads as it did. -/
def rebaseTextsUptoRow : OpenClaim := { program := "ytdpjblepcpjomaa", sum := "45880e8481ac6eda6ade617e8af4d42377914198a8cfc04d36cbde27cad0f926", func := "octavo/octavolaw21.RebaseTexts", spec := "rebaseTexts", inPlace := ["internal/reflectlite.ValueOf", "internal/reflectlite.Swapper", "(internal/reflectlite.Value).Len"], unfollowed := true, recurses := true, apart := false, narrowed := true }
def RebaseTextsUptoSaid : Prop := rebaseTextsUptoRow.holds Try.pinned (OpenSpec.upto rebaseTextsSpec)

/-- 'octavolaw21.RebaseWhole', WHERE WHAT IT READS IS OF BULK AT MOST 1048576: true; the input reads as it did. -/
def rebaseWholeUptoRow : OpenClaim := { program := "ytdpjblepcpjomaa", sum := "45880e8481ac6eda6ade617e8af4d42377914198a8cfc04d36cbde27cad0f926", func := "octavo/octavolaw21.RebaseWhole", spec := "rebaseWhole", inPlace := ["internal/reflectlite.ValueOf", "internal/reflectlite.Swapper", "(internal/reflectlite.Value).Len"], unfollowed := true, recurses := true, apart := false, narrowed := true }
def RebaseWholeUptoSaid : Prop := rebaseWholeUptoRow.holds Try.pinned (OpenSpec.upto rebaseWholeSpec)

/-- 'octavolaw21.RebaseTwice', WHERE WHAT IT READS IS OF BULK AT MOST 1048576: true; the input reads as it did. -/
def rebaseTwiceUptoRow : OpenClaim := { program := "ytdpjblepcpjomaa", sum := "45880e8481ac6eda6ade617e8af4d42377914198a8cfc04d36cbde27cad0f926", func := "octavo/octavolaw21.RebaseTwice", spec := "rebaseTwice", inPlace := ["internal/reflectlite.ValueOf", "internal/reflectlite.Swapper", "(internal/reflectlite.Value).Len"], unfollowed := true, recurses := true, apart := false, narrowed := true }
def RebaseTwiceUptoSaid : Prop := rebaseTwiceUptoRow.holds Try.pinned (OpenSpec.upto rebaseTwiceSpec)

end Rows
end Go.Proofs.Ytdpjblepcpjomaa
