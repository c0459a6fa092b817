/-
  No cell of these rows narrows 'for every input' (looked for: loops, veiled, ifaces, maps, wideKeys, modest, calm, conditions, laid).
  DERIVED. THE GIVEN ROWS OF THIS SEAT. 7 by the template 'for every input the law returns true; each argument reads behind the call as it read before'; 0 by the template 'total and deterministic' (their statements: YtlgablhlpcmcaaaTotals.lean).
  GIVEN WITH THE SEED: the statements are not yours to turn. If you find one false, say at which input.
  Laid BY PROGRAM, IN A SANDBOX (cutbox-rows.mjs): the forced cells as the released guide's own fill.sh prints them over the translation fdea3a824b4ade83… (all of the seat's roots in one cut). By AI agents, Wed Nov 11 2026. No macro, syntax, notation, axiom, sorry.
-/
import Derived.Test.YtlgablhlpcmcaaaChecked
import GoSem.Claim
import GoSem.ClaimJoined
import GoSem.ClaimMapViews
import Derived.JoinedTies
import Derived.KernelRfl
namespace Go.Proofs.Ytlgablhlpcmcaaa
/- THE CELL 'sum', in the pinned program and in every row, IS THE sha256 OF THE DUMP (.gsa) THAT YtlgablhlpcmcaaaProg.lean LOADS. Nothing in Lean hashes anything: it is a label: what it is worth is what the hold of that sum in a sandbox is worth. -/
noncomputable def Try.pinned : Pinned := { name := "ytlgablhlpcmcaaa", sum := "fdea3a824b4ade83c77e516bcb7abe2bdbde39bc579a09bb4ff66d3f1b262f14", checked := Try.checked }
namespace Rows
def none {H : Type} : Left H := { results := [], args := [] }

/-- 'octavolaw10.ScrapSplices': WHATEVER THE INPUT: true; the input reads as it did. -/
def scrapSplicesSpec : ChangeSpec := { name := "scrapSplices", fn := fun _ => fun
  | [d1, d2, d3, d4] => { results := [.lit (.bool true)], args := [d1, d2, d3, d4] }
  | _ => none }
def scrapSplicesRow : OpenClaim := { program := "ytlgablhlpcmcaaa", sum := "fdea3a824b4ade83c77e516bcb7abe2bdbde39bc579a09bb4ff66d3f1b262f14", func := "octavo/octavolaw10.ScrapSplices", spec := "scrapSplices", apart := false }
def ScrapSplicesSaid : Prop := scrapSplicesRow.holds Try.pinned (OpenSpec.ofChange scrapSplicesSpec)

/-- ITS FALSE NEIGHBOUR: 'it returns false'. Refute it at one input. -/
def scrapSplicesWrong : ChangeSpec := { name := "scrapSplices", fn := fun _ => fun
  | [d1, d2, d3, d4] => { results := [.lit (.bool false)], args := [d1, d2, d3, d4] }
  | _ => none }
def ScrapSplicesWrongFalsely : Prop := scrapSplicesRow.holds Try.pinned (OpenSpec.ofChange scrapSplicesWrong)

/-- 'octavolaw10.ScrapTexts': WHATEVER THE INPUT: true; the input reads as it did. -/
def scrapTextsSpec : ChangeSpec := { name := "scrapTexts", fn := fun _ => fun
  | [d1, d2, d3, d4, d5] => { results := [.lit (.bool true)], args := [d1, d2, d3, d4, d5] }
  | _ => none }
def scrapTextsRow : OpenClaim := { program := "ytlgablhlpcmcaaa", sum := "fdea3a824b4ade83c77e516bcb7abe2bdbde39bc579a09bb4ff66d3f1b262f14", func := "octavo/octavolaw10.ScrapTexts", spec := "scrapTexts", apart := false }
def ScrapTextsSaid : Prop := scrapTextsRow.holds Try.pinned (OpenSpec.ofChange scrapTextsSpec)

/-- ITS FALSE NEIGHBOUR: 'it returns false'. Refute it at one input. -/
def scrapTextsWrong : ChangeSpec := { name := "scrapTexts", fn := fun _ => fun
  | [d1, d2, d3, d4, d5] => { results := [.lit (.bool false)], args := [d1, d2, d3, d4, d5] }
  | _ => none }
def ScrapTextsWrongFalsely : Prop := scrapTextsRow.holds Try.pinned (OpenSpec.ofChange scrapTextsWrong)

/-- 'octavolaw10.ScrapUndone': WHATEVER THE INPUT: true; the input reads as it did. -/
def scrapUndoneSpec : ChangeSpec := { name := "scrapUndone", fn := fun _ => fun
  | [d1, d2, d3, d4] => { results := [.lit (.bool true)], args := [d1, d2, d3, d4] }
  | _ => none }
def scrapUndoneRow : OpenClaim := { program := "ytlgablhlpcmcaaa", sum := "fdea3a824b4ade83c77e516bcb7abe2bdbde39bc579a09bb4ff66d3f1b262f14", func := "octavo/octavolaw10.ScrapUndone", spec := "scrapUndone", apart := false }
def ScrapUndoneSaid : Prop := scrapUndoneRow.holds Try.pinned (OpenSpec.ofChange scrapUndoneSpec)

/-- ITS FALSE NEIGHBOUR: 'it returns false'. Refute it at one input. -/
def scrapUndoneWrong : ChangeSpec := { name := "scrapUndone", fn := fun _ => fun
  | [d1, d2, d3, d4] => { results := [.lit (.bool false)], args := [d1, d2, d3, d4] }
  | _ => none }
def ScrapUndoneWrongFalsely : Prop := scrapUndoneRow.holds Try.pinned (OpenSpec.ofChange scrapUndoneWrong)

/-- 'octavolaw10.ScrapParts': WHATEVER THE INPUT: true; the input reads as it did. -/
def scrapPartsSpec : ChangeSpec := { name := "scrapParts", fn := fun _ => fun
  | [d1, d2, d3] => { results := [.lit (.bool true)], args := [d1, d2, d3] }
  | _ => none }
def scrapPartsRow : OpenClaim := { program := "ytlgablhlpcmcaaa", sum := "fdea3a824b4ade83c77e516bcb7abe2bdbde39bc579a09bb4ff66d3f1b262f14", func := "octavo/octavolaw10.ScrapParts", spec := "scrapParts", apart := false }
def ScrapPartsSaid : Prop := scrapPartsRow.holds Try.pinned (OpenSpec.ofChange scrapPartsSpec)

/-- ITS FALSE NEIGHBOUR: 'it returns false'. Refute it at one input. -/
def scrapPartsWrong : ChangeSpec := { name := "scrapParts", fn := fun _ => fun
  | [d1, d2, d3] => { results := [.lit (.bool false)], args := [d1, d2, d3] }
  | _ => none }
def ScrapPartsWrongFalsely : Prop := scrapPartsRow.holds Try.pinned (OpenSpec.ofChange scrapPartsWrong)

/-- 'octavolaw10.ScrapAsks': WHATEVER THE INPUT: true; the input reads as it did. -/
def scrapAsksSpec : ChangeSpec := { name := "scrapAsks", fn := fun _ => fun
  | [d1, d2, d3] => { results := [.lit (.bool true)], args := [d1, d2, d3] }
  | _ => none }
def scrapAsksRow : OpenClaim := { program := "ytlgablhlpcmcaaa", sum := "fdea3a824b4ade83c77e516bcb7abe2bdbde39bc579a09bb4ff66d3f1b262f14", func := "octavo/octavolaw10.ScrapAsks", spec := "scrapAsks", apart := false }
def ScrapAsksSaid : Prop := scrapAsksRow.holds Try.pinned (OpenSpec.ofChange scrapAsksSpec)

/-- ITS FALSE NEIGHBOUR: 'it returns false'. Refute it at one input. -/
def scrapAsksWrong : ChangeSpec := { name := "scrapAsks", fn := fun _ => fun
  | [d1, d2, d3] => { results := [.lit (.bool false)], args := [d1, d2, d3] }
  | _ => none }
def ScrapAsksWrongFalsely : Prop := scrapAsksRow.holds Try.pinned (OpenSpec.ofChange scrapAsksWrong)

/-- 'octavolaw10.ScrapFinds': WHATEVER THE INPUT: true; the input reads as it did. -/
def scrapFindsSpec : ChangeSpec := { name := "scrapFinds", fn := fun _ => fun
  | [d1, d2] => { results := [.lit (.bool true)], args := [d1, d2] }
  | _ => none }
def scrapFindsRow : OpenClaim := { program := "ytlgablhlpcmcaaa", sum := "fdea3a824b4ade83c77e516bcb7abe2bdbde39bc579a09bb4ff66d3f1b262f14", func := "octavo/octavolaw10.ScrapFinds", spec := "scrapFinds", apart := false }
def ScrapFindsSaid : Prop := scrapFindsRow.holds Try.pinned (OpenSpec.ofChange scrapFindsSpec)

/-- ITS FALSE NEIGHBOUR: 'it returns false'. Refute it at one input. -/
def scrapFindsWrong : ChangeSpec := { name := "scrapFinds", fn := fun _ => fun
  | [d1, d2] => { results := [.lit (.bool false)], args := [d1, d2] }
  | _ => none }
def ScrapFindsWrongFalsely : Prop := scrapFindsRow.holds Try.pinned (OpenSpec.ofChange scrapFindsWrong)

/-- 'octavolaw10.ScrapJoined': WHATEVER THE INPUT: true; the input reads as it did. -/
def scrapJoinedSpec : ChangeSpec := { name := "scrapJoined", fn := fun _ => fun
  | [d1, d2, d3] => { results := [.lit (.bool true)], args := [d1, d2, d3] }
  | _ => none }
def scrapJoinedRow : OpenClaim := { program := "ytlgablhlpcmcaaa", sum := "fdea3a824b4ade83c77e516bcb7abe2bdbde39bc579a09bb4ff66d3f1b262f14", func := "octavo/octavolaw10.ScrapJoined", spec := "scrapJoined", apart := false }
def ScrapJoinedSaid : Prop := scrapJoinedRow.holds Try.pinned (OpenSpec.ofChange scrapJoinedSpec)

/-- ITS FALSE NEIGHBOUR: 'it returns false'. Refute it at one input. -/
def scrapJoinedWrong : ChangeSpec := { name := "scrapJoined", fn := fun _ => fun
  | [d1, d2, d3] => { results := [.lit (.bool false)], args := [d1, d2, d3] }
  | _ => none }
def ScrapJoinedWrongFalsely : Prop := scrapJoinedRow.holds Try.pinned (OpenSpec.ofChange scrapJoinedWrong)

/- THE SECOND FORM. 'bulk': how many values and letters a reading holds, each counted each time it is reached (what is shared counts as often as it is met; a slice's spare places count too). A statement '..UptoSaid' is the law's where the arguments, and the package variables that the reading takes, are together of bulk at most 1048576: NARROWER than '..Said'. Prove '..Said' where nothing that the law and all that it calls make is longer than what came in: it says more and counts as full. Else prove '..UptoSaid'. A law counts once. -/
mutual
def uptoBulk {H : Type} : DataW H → Nat
  | .lit (.string bytes) => bytes.length + 1
  | .lit _ => 1
  | .nil => 1
  | .ptr d => uptoBulk d + 1
  | .slice elems spare => uptoBulkAll elems + uptoBulkAll spare + 1
  | .agg parts => uptoBulkAll parts + 1
  | .iface _ d => uptoBulk d + 1
  | .map entries => uptoBulkEntries entries + 1
  | .held _ => 1
def uptoBulkAll {H : Type} : List (DataW H) → Nat
  | [] => 0
  | d :: r => uptoBulk d + uptoBulkAll r
def uptoBulkEntries {H : Type} : List (Lit × DataW H) → Nat
  | [] => 0
  | x :: r => uptoBulkEntry x + uptoBulkEntries r
def uptoBulkEntry {H : Type} : Lit × DataW H → Nat
  | (.string bytes, d) => bytes.length + uptoBulk d + 1
  | (_, d) => uptoBulk d + 1
 end
def uptoSmall : (H : Type) → List (DataW H) → Bool := fun _ ds => decide (uptoBulkAll ds ≤ 1048576)
def OpenSpec.upto (s : _root_.Go.ChangeSpec) : _root_.Go.OpenSpec := { _root_.Go.OpenSpec.ofChange s with cond := some uptoSmall }

/-- 'octavolaw10.ScrapSplices', WHERE WHAT IT READS IS OF BULK AT MOST 1048576: true; the input reads as it did. -/
def scrapSplicesUptoRow : OpenClaim := { program := "ytlgablhlpcmcaaa", sum := "fdea3a824b4ade83c77e516bcb7abe2bdbde39bc579a09bb4ff66d3f1b262f14", func := "octavo/octavolaw10.ScrapSplices", spec := "scrapSplices", apart := false, narrowed := true }
def ScrapSplicesUptoSaid : Prop := scrapSplicesUptoRow.holds Try.pinned (OpenSpec.upto scrapSplicesSpec)

/-- 'octavolaw10.ScrapTexts', WHERE WHAT IT READS IS OF BULK AT MOST 1048576: true; the input reads as it did. -/
def scrapTextsUptoRow : OpenClaim := { program := "ytlgablhlpcmcaaa", sum := "fdea3a824b4ade83c77e516bcb7abe2bdbde39bc579a09bb4ff66d3f1b262f14", func := "octavo/octavolaw10.ScrapTexts", spec := "scrapTexts", apart := false, narrowed := true }
def ScrapTextsUptoSaid : Prop := scrapTextsUptoRow.holds Try.pinned (OpenSpec.upto scrapTextsSpec)

/-- 'octavolaw10.ScrapUndone', WHERE WHAT IT READS IS OF BULK AT MOST 1048576: true; the input reads as it did. -/
def scrapUndoneUptoRow : OpenClaim := { program := "ytlgablhlpcmcaaa", sum := "fdea3a824b4ade83c77e516bcb7abe2bdbde39bc579a09bb4ff66d3f1b262f14", func := "octavo/octavolaw10.ScrapUndone", spec := "scrapUndone", apart := false, narrowed := true }
def ScrapUndoneUptoSaid : Prop := scrapUndoneUptoRow.holds Try.pinned (OpenSpec.upto scrapUndoneSpec)

/-- 'octavolaw10.ScrapParts', WHERE WHAT IT READS IS OF BULK AT MOST 1048576: true; the input reads as it did. -/
def scrapPartsUptoRow : OpenClaim := { program := "ytlgablhlpcmcaaa", sum := "fdea3a824b4ade83c77e516bcb7abe2bdbde39bc579a09bb4ff66d3f1b262f14", func := "octavo/octavolaw10.ScrapParts", spec := "scrapParts", apart := false, narrowed := true }
def ScrapPartsUptoSaid : Prop := scrapPartsUptoRow.holds Try.pinned (OpenSpec.upto scrapPartsSpec)

/-- 'octavolaw10.ScrapAsks', WHERE WHAT IT READS IS OF BULK AT MOST 1048576: true; the input reads as it did. -/
def scrapAsksUptoRow : OpenClaim := { program := "ytlgablhlpcmcaaa", sum := "fdea3a824b4ade83c77e516bcb7abe2bdbde39bc579a09bb4ff66d3f1b262f14", func := "octavo/octavolaw10.ScrapAsks", spec := "scrapAsks", apart := false, narrowed := true }
def ScrapAsksUptoSaid : Prop := scrapAsksUptoRow.holds Try.pinned (OpenSpec.upto scrapAsksSpec)

/-- 'octavolaw10.ScrapFinds', WHERE WHAT IT READS IS OF BULK AT MOST 1048576: true; the input reads as it did. -/
def scrapFindsUptoRow : OpenClaim := { program := "ytlgablhlpcmcaaa", sum := "fdea3a824b4ade83c77e516bcb7abe2bdbde39bc579a09bb4ff66d3f1b262f14", func := "octavo/octavolaw10.ScrapFinds", spec := "scrapFinds", apart := false, narrowed := true }
def ScrapFindsUptoSaid : Prop := scrapFindsUptoRow.holds Try.pinned (OpenSpec.upto scrapFindsSpec)

/-- 'octavolaw10.ScrapJoined', WHERE WHAT IT READS IS OF BULK AT MOST 1048576: true; the input reads as it did. -/
def scrapJoinedUptoRow : OpenClaim := { program := "ytlgablhlpcmcaaa", sum := "fdea3a824b4ade83c77e516bcb7abe2bdbde39bc579a09bb4ff66d3f1b262f14", func := "octavo/octavolaw10.ScrapJoined", spec := "scrapJoined", apart := false, narrowed := true }
def ScrapJoinedUptoSaid : Prop := scrapJoinedUptoRow.holds Try.pinned (OpenSpec.upto scrapJoinedSpec)

end Rows
end Go.Proofs.Ytlgablhlpcmcaaa
