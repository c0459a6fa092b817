/-
  No cell of these rows narrows 'for every input' (looked for: loops, veiled, ifaces, maps, wideKeys, modest, calm, conditions, laid).
  DERIVED. THE GIVEN ROWS OF THIS SEAT. 3 by the template 'for every input the law returns true; each argument reads behind the call as it read before'; 0 by the template 'total and deterministic' (their statements: YtlplhllcohoeaaaTotals.lean).
  GIVEN WITH THE SEED: the statements are not yours to turn. If you find one false, say at which input.
  Laid BY PROGRAM, IN A SANDBOX (cutbox-rows.mjs): the forced cells as the released guide's own fill.sh prints them over the translation 17ffb32c45c9bc9c… (all of the seat's roots in one cut). By AI agents, Wed Nov 11 2026. No macro, syntax, notation, axiom, sorry.
-/
import Derived.Test.YtlplhllcohoeaaaChecked
import GoSem.Claim
import GoSem.ClaimJoined
import GoSem.ClaimMapViews
import Derived.JoinedTies
import Derived.KernelRfl
namespace Go.Proofs.Ytlplhllcohoeaaa
/- THE CELL 'sum', in the pinned program and in every row, IS THE sha256 OF THE DUMP (.gsa) THAT YtlplhllcohoeaaaProg.lean LOADS. Nothing in Lean hashes anything: it is a label: what it is worth is what the hold of that sum in a sandbox is worth. -/
noncomputable def Try.pinned : Pinned := { name := "ytlplhllcohoeaaa", sum := "17ffb32c45c9bc9c0ef39afd12c8dd4ee42acffd427ea18a1c0439b1652f98cb", checked := Try.checked }
namespace Rows
def none {H : Type} : Left H := { results := [], args := [] }

/-- 'octavolaw09.TailOpens': WHATEVER THE INPUT: true; the input reads as it did. -/
def tailOpensSpec : ChangeSpec := { name := "tailOpens", fn := fun _ => fun
  | [d1, d2, d3] => { results := [.lit (.bool true)], args := [d1, d2, d3] }
  | _ => none }
def tailOpensRow : OpenClaim := { program := "ytlplhllcohoeaaa", sum := "17ffb32c45c9bc9c0ef39afd12c8dd4ee42acffd427ea18a1c0439b1652f98cb", func := "octavo/octavolaw09.TailOpens", spec := "tailOpens", apart := false }
def TailOpensSaid : Prop := tailOpensRow.holds Try.pinned (OpenSpec.ofChange tailOpensSpec)

/-- ITS FALSE NEIGHBOUR: 'it returns false'. Refute it at one input. -/
def tailOpensWrong : ChangeSpec := { name := "tailOpens", fn := fun _ => fun
  | [d1, d2, d3] => { results := [.lit (.bool false)], args := [d1, d2, d3] }
  | _ => none }
def TailOpensWrongFalsely : Prop := tailOpensRow.holds Try.pinned (OpenSpec.ofChange tailOpensWrong)

/-- 'octavolaw09.TailNil': WHATEVER THE INPUT: true; the input reads as it did. -/
def tailNilSpec : ChangeSpec := { name := "tailNil", fn := fun _ => fun
  | [d] => { results := [.lit (.bool true)], args := [d] }
  | _ => none }
def tailNilRow : OpenClaim := { program := "ytlplhllcohoeaaa", sum := "17ffb32c45c9bc9c0ef39afd12c8dd4ee42acffd427ea18a1c0439b1652f98cb", func := "octavo/octavolaw09.TailNil", spec := "tailNil", apart := false }
def TailNilSaid : Prop := tailNilRow.holds Try.pinned (OpenSpec.ofChange tailNilSpec)

/-- ITS FALSE NEIGHBOUR: 'it returns false'. Refute it at one input. -/
def tailNilWrong : ChangeSpec := { name := "tailNil", fn := fun _ => fun
  | [d] => { results := [.lit (.bool false)], args := [d] }
  | _ => none }
def TailNilWrongFalsely : Prop := tailNilRow.holds Try.pinned (OpenSpec.ofChange tailNilWrong)

/-- 'octavolaw09.TailPlays': WHATEVER THE INPUT: true; the input reads as it did. -/
def tailPlaysSpec : ChangeSpec := { name := "tailPlays", fn := fun _ => fun
  | [d1, d2] => { results := [.lit (.bool true)], args := [d1, d2] }
  | _ => none }
def tailPlaysRow : OpenClaim := { program := "ytlplhllcohoeaaa", sum := "17ffb32c45c9bc9c0ef39afd12c8dd4ee42acffd427ea18a1c0439b1652f98cb", func := "octavo/octavolaw09.TailPlays", spec := "tailPlays", apart := false }
def TailPlaysSaid : Prop := tailPlaysRow.holds Try.pinned (OpenSpec.ofChange tailPlaysSpec)

/-- ITS FALSE NEIGHBOUR: 'it returns false'. Refute it at one input. -/
def tailPlaysWrong : ChangeSpec := { name := "tailPlays", fn := fun _ => fun
  | [d1, d2] => { results := [.lit (.bool false)], args := [d1, d2] }
  | _ => none }
def TailPlaysWrongFalsely : Prop := tailPlaysRow.holds Try.pinned (OpenSpec.ofChange tailPlaysWrong)

/- THE SECOND FORM. 'bulk': how many values and letters a reading holds, each counted each time it is reached (what is shared counts as often as it is met; a slice's spare places count too). A statement '..UptoSaid' is the law's where the arguments, and the package variables that the reading takes, are together of bulk at most 1048576: NARROWER than '..Said'. Prove '..Said' where nothing that the law and all that it calls make is longer than what came in: it says more and counts as full. Else prove '..UptoSaid'. A law counts once. -/
mutual
def uptoBulk {H : Type} : DataW H → Nat
  | .lit (.string bytes) => bytes.length + 1
  | .lit _ => 1
  | .nil => 1
  | .ptr d => uptoBulk d + 1
  | .slice elems spare => uptoBulkAll elems + uptoBulkAll spare + 1
  | .agg parts => uptoBulkAll parts + 1
  | .iface _ d => uptoBulk d + 1
  | .map entries => uptoBulkEntries entries + 1
  | .held _ => 1
def uptoBulkAll {H : Type} : List (DataW H) → Nat
  | [] => 0
  | d :: r => uptoBulk d + uptoBulkAll r
def uptoBulkEntries {H : Type} : List (Lit × DataW H) → Nat
  | [] => 0
  | x :: r => uptoBulkEntry x + uptoBulkEntries r
def uptoBulkEntry {H : Type} : Lit × DataW H → Nat
  | (.string bytes, d) => bytes.length + uptoBulk d + 1
  | (_, d) => uptoBulk d + 1
 end
def uptoSmall : (H : Type) → List (DataW H) → Bool := fun _ ds => decide (uptoBulkAll ds ≤ 1048576)
def OpenSpec.upto (s : _root_.Go.ChangeSpec) : _root_.Go.OpenSpec := { _root_.Go.OpenSpec.ofChange s with cond := some uptoSmall }

/-- 'octavolaw09.TailOpens', WHERE WHAT IT READS IS OF BULK AT MOST 1048576: true; the input reads as it did. -/
def tailOpensUptoRow : OpenClaim := { program := "ytlplhllcohoeaaa", sum := "17ffb32c45c9bc9c0ef39afd12c8dd4ee42acffd427ea18a1c0439b1652f98cb", func := "octavo/octavolaw09.TailOpens", spec := "tailOpens", apart := false, narrowed := true }
def TailOpensUptoSaid : Prop := tailOpensUptoRow.holds Try.pinned (OpenSpec.upto tailOpensSpec)

/-- 'octavolaw09.TailNil', WHERE WHAT IT READS IS OF BULK AT MOST 1048576: true; the input reads as it did. -/
def tailNilUptoRow : OpenClaim := { program := "ytlplhllcohoeaaa", sum := "17ffb32c45c9bc9c0ef39afd12c8dd4ee42acffd427ea18a1c0439b1652f98cb", func := "octavo/octavolaw09.TailNil", spec := "tailNil", apart := false, narrowed := true }
def TailNilUptoSaid : Prop := tailNilUptoRow.holds Try.pinned (OpenSpec.upto tailNilSpec)

/-- 'octavolaw09.TailPlays', WHERE WHAT IT READS IS OF BULK AT MOST 1048576: true; the input reads as it did. -/
def tailPlaysUptoRow : OpenClaim := { program := "ytlplhllcohoeaaa", sum := "17ffb32c45c9bc9c0ef39afd12c8dd4ee42acffd427ea18a1c0439b1652f98cb", func := "octavo/octavolaw09.TailPlays", spec := "tailPlays", apart := false, narrowed := true }
def TailPlaysUptoSaid : Prop := tailPlaysUptoRow.holds Try.pinned (OpenSpec.upto tailPlaysSpec)

end Rows
end Go.Proofs.Ytlplhllcohoeaaa
