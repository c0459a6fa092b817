/-
  No cell of these rows narrows 'for every input' (looked for: loops, veiled, ifaces, maps, wideKeys, modest, calm, conditions, laid).
  DERIVED. THE GIVEN ROWS OF THIS SEAT. 4 by the template 'for every input the law returns true; each argument reads behind the call as it read before'; 0 by the template 'total and deterministic' (their statements: YtpnajbpakeimiaaTotals.lean).
  GIVEN WITH THE SEED: the statements are not yours to turn. If you find one false, say at which input.
  Laid BY PROGRAM, IN A SANDBOX (cutbox-rows.mjs): the forced cells as the released guide's own fill.sh prints them over the translation ed1d88f1f9045b85… (all of the seat's roots in one cut). By AI agents, Wed Nov 11 2026. No macro, syntax, notation, axiom, sorry.
-/
import Derived.Test.YtpnajbpakeimiaaChecked
import GoSem.Claim
import GoSem.ClaimJoined
import GoSem.ClaimMapViews
import Derived.JoinedTies
import Derived.KernelRfl
namespace Go.Proofs.Ytpnajbpakeimiaa
/- THE CELL 'sum', in the pinned program and in every row, IS THE sha256 OF THE DUMP (.gsa) THAT YtpnajbpakeimiaaProg.lean LOADS. Nothing in Lean hashes anything: it is a label: what it is worth is what the hold of that sum in a sandbox is worth. -/
noncomputable def Try.pinned : Pinned := { name := "ytpnajbpakeimiaa", sum := "ed1d88f1f9045b8595fdd713e83eba781334922e1b8598639daf93d48ba2ddaa", checked := Try.checked }
namespace Rows
def none {H : Type} : Left H := { results := [], args := [] }

/-- 'octavolaw12.IndexCounts': WHATEVER THE INPUT: true; the input reads as it did. -/
def indexCountsSpec : ChangeSpec := { name := "indexCounts", fn := fun _ => fun
  | [d1, d2] => { results := [.lit (.bool true)], args := [d1, d2] }
  | _ => none }
def indexCountsRow : OpenClaim := { program := "ytpnajbpakeimiaa", sum := "ed1d88f1f9045b8595fdd713e83eba781334922e1b8598639daf93d48ba2ddaa", func := "octavo/octavolaw12.IndexCounts", spec := "indexCounts", inPlace := ["internal/bytealg.Count", "internal/bytealg.IndexByte", "internal/bytealg.Index", "internal/reflectlite.ValueOf", "internal/reflectlite.Swapper", "(internal/reflectlite.Value).Len"], unfollowed := true, recurses := true, named := ["internal/bytealg.MaxLen"], apart := false }
def IndexCountsSaid : Prop := indexCountsRow.holds Try.pinned (OpenSpec.ofChange indexCountsSpec)

/-- ITS FALSE NEIGHBOUR: 'it returns false'. Refute it at one input. -/
def indexCountsWrong : ChangeSpec := { name := "indexCounts", fn := fun _ => fun
  | [d1, d2] => { results := [.lit (.bool false)], args := [d1, d2] }
  | _ => none }
def IndexCountsWrongFalsely : Prop := indexCountsRow.holds Try.pinned (OpenSpec.ofChange indexCountsWrong)

/-- 'octavolaw12.IndexParts': WHATEVER THE INPUT: true; the input reads as it did. -/
def indexPartsSpec : ChangeSpec := { name := "indexParts", fn := fun _ => fun
  | [d1, d2, d3, d4] => { results := [.lit (.bool true)], args := [d1, d2, d3, d4] }
  | _ => none }
def indexPartsRow : OpenClaim := { program := "ytpnajbpakeimiaa", sum := "ed1d88f1f9045b8595fdd713e83eba781334922e1b8598639daf93d48ba2ddaa", func := "octavo/octavolaw12.IndexParts", spec := "indexParts", inPlace := ["internal/bytealg.Count", "internal/bytealg.IndexByte", "internal/bytealg.Index", "internal/reflectlite.ValueOf", "internal/reflectlite.Swapper", "(internal/reflectlite.Value).Len"], unfollowed := true, recurses := true, named := ["internal/bytealg.MaxLen"], apart := false }
def IndexPartsSaid : Prop := indexPartsRow.holds Try.pinned (OpenSpec.ofChange indexPartsSpec)

/-- ITS FALSE NEIGHBOUR: 'it returns false'. Refute it at one input. -/
def indexPartsWrong : ChangeSpec := { name := "indexParts", fn := fun _ => fun
  | [d1, d2, d3, d4] => { results := [.lit (.bool false)], args := [d1, d2, d3, d4] }
  | _ => none }
def IndexPartsWrongFalsely : Prop := indexPartsRow.holds Try.pinned (OpenSpec.ofChange indexPartsWrong)

/-- 'octavolaw12.IndexNil': WHATEVER THE INPUT: true; the input reads as it did. -/
def indexNilSpec : ChangeSpec := { name := "indexNil", fn := fun _ => fun
  | [d] => { results := [.lit (.bool true)], args := [d] }
  | _ => none }
def indexNilRow : OpenClaim := { program := "ytpnajbpakeimiaa", sum := "ed1d88f1f9045b8595fdd713e83eba781334922e1b8598639daf93d48ba2ddaa", func := "octavo/octavolaw12.IndexNil", spec := "indexNil", inPlace := ["internal/bytealg.Count", "internal/bytealg.IndexByte", "internal/bytealg.Index", "internal/reflectlite.ValueOf", "internal/reflectlite.Swapper", "(internal/reflectlite.Value).Len"], unfollowed := true, recurses := true, named := ["internal/bytealg.MaxLen"], apart := false }
def IndexNilSaid : Prop := indexNilRow.holds Try.pinned (OpenSpec.ofChange indexNilSpec)

/-- ITS FALSE NEIGHBOUR: 'it returns false'. Refute it at one input. -/
def indexNilWrong : ChangeSpec := { name := "indexNil", fn := fun _ => fun
  | [d] => { results := [.lit (.bool false)], args := [d] }
  | _ => none }
def IndexNilWrongFalsely : Prop := indexNilRow.holds Try.pinned (OpenSpec.ofChange indexNilWrong)

/-- 'octavolaw12.IndexDown': WHATEVER THE INPUT: true; the input reads as it did. -/
def indexDownSpec : ChangeSpec := { name := "indexDown", fn := fun _ => fun
  | [d1, d2, d3] => { results := [.lit (.bool true)], args := [d1, d2, d3] }
  | _ => none }
def indexDownRow : OpenClaim := { program := "ytpnajbpakeimiaa", sum := "ed1d88f1f9045b8595fdd713e83eba781334922e1b8598639daf93d48ba2ddaa", func := "octavo/octavolaw12.IndexDown", spec := "indexDown", inPlace := ["internal/bytealg.Count", "internal/bytealg.IndexByte", "internal/bytealg.Index", "internal/reflectlite.ValueOf", "internal/reflectlite.Swapper", "(internal/reflectlite.Value).Len"], unfollowed := true, recurses := true, named := ["internal/bytealg.MaxLen"], apart := false }
def IndexDownSaid : Prop := indexDownRow.holds Try.pinned (OpenSpec.ofChange indexDownSpec)

/-- ITS FALSE NEIGHBOUR: 'it returns false'. Refute it at one input. -/
def indexDownWrong : ChangeSpec := { name := "indexDown", fn := fun _ => fun
  | [d1, d2, d3] => { results := [.lit (.bool false)], args := [d1, d2, d3] }
  | _ => none }
def IndexDownWrongFalsely : Prop := indexDownRow.holds Try.pinned (OpenSpec.ofChange indexDownWrong)

/- THE SECOND FORM. 'bulk': how many values and letters a reading holds, each counted each time it is reached (what is shared counts as often as it is met; a slice's spare places count too). A statement '..UptoSaid' is the law's where the arguments, and the package variables that the reading takes, are together of bulk at most 1048576: NARROWER than '..Said'. Prove '..Said' where nothing that the law and all that it calls make is longer than what came in: it says more and counts as full. Else prove '..UptoSaid'. A law counts once. -/
mutual
def uptoBulk {H : Type} : DataW H → Nat
  | .lit (.string bytes) => bytes.length + 1
  | .lit _ => 1
  | .nil => 1
  | .ptr d => uptoBulk d + 1
  | .slice elems spare => uptoBulkAll elems + uptoBulkAll spare + 1
  | .agg parts => uptoBulkAll parts + 1
  | .iface _ d => uptoBulk d + 1
  | .map entries => uptoBulkEntries entries + 1
  | .held _ => 1
def uptoBulkAll {H : Type} : List (DataW H) → Nat
  | [] => 0
  | d :: r => uptoBulk d + uptoBulkAll r
def uptoBulkEntries {H : Type} : List (Lit × DataW H) → Nat
  | [] => 0
  | x :: r => uptoBulkEntry x + uptoBulkEntries r
def uptoBulkEntry {H : Type} : Lit × DataW H → Nat
  | (.string bytes, d) => bytes.length + uptoBulk d + 1
  | (_, d) => uptoBulk d + 1
 end
def uptoSmall : (H : Type) → List (DataW H) → Bool := fun _ ds => decide (uptoBulkAll ds ≤ 1048576)
def OpenSpec.upto (s : _root_.Go.ChangeSpec) : _root_.Go.OpenSpec := { _root_.Go.OpenSpec.ofChange s with cond := some uptoSmall }

/-- 'octavolaw12.IndexCounts', WHERE WHAT IT READS IS OF BULK AT MOST 1048576: true; the input reads as it did. -/
def indexCountsUptoRow : OpenClaim := { program := "ytpnajbpakeimiaa", sum := "ed1d88f1f9045b8595fdd713e83eba781334922e1b8598639daf93d48ba2ddaa", func := "octavo/octavolaw12.IndexCounts", spec := "indexCounts", inPlace := ["internal/bytealg.Count", "internal/bytealg.IndexByte", "internal/bytealg.Index", "internal/reflectlite.ValueOf", "internal/reflectlite.Swapper", "(internal/reflectlite.Value).Len"], unfollowed := true, recurses := true, named := ["internal/bytealg.MaxLen"], apart := false, narrowed := true }
def IndexCountsUptoSaid : Prop := indexCountsUptoRow.holds Try.pinned (OpenSpec.upto indexCountsSpec)

/-- 'octavolaw12.IndexParts', WHERE WHAT IT READS IS OF BULK AT MOST 1048576: true; the input reads as it did. -/
def indexPartsUptoRow : OpenClaim := { program := "ytpnajbpakeimiaa", sum := "ed1d88f1f9045b8595fdd713e83eba781334922e1b8598639daf93d48ba2ddaa", func := "octavo/octavolaw12.IndexParts", spec := "indexParts", inPlace := ["internal/bytealg.Count", "internal/bytealg.IndexByte", "internal/bytealg.Index", "internal/reflectlite.ValueOf", "internal/reflectlite.Swapper", "(internal/reflectlite.Value).Len"], unfollowed := true, recurses := true, named := ["internal/bytealg.MaxLen"], apart := false, narrowed := true }
def IndexPartsUptoSaid : Prop := indexPartsUptoRow.holds Try.pinned (OpenSpec.upto indexPartsSpec)

/-- 'octavolaw12.IndexNil', WHERE WHAT IT READS IS OF BULK AT MOST 1048576: true; the input reads as it did. -/
def indexNilUptoRow : OpenClaim := { program := "ytpnajbpakeimiaa", sum := "ed1d88f1f9045b8595fdd713e83eba781334922e1b8598639daf93d48ba2ddaa", func := "octavo/octavolaw12.IndexNil", spec := "indexNil", inPlace := ["internal/bytealg.Count", "internal/bytealg.IndexByte", "internal/bytealg.Index", "internal/reflectlite.ValueOf", "internal/reflectlite.Swapper", "(internal/reflectlite.Value).Len"], unfollowed := true, recurses := true, named := ["internal/bytealg.MaxLen"], apart := false, narrowed := true }
def IndexNilUptoSaid : Prop := indexNilUptoRow.holds Try.pinned (OpenSpec.upto indexNilSpec)

/-- 'octavolaw12.IndexDown', WHERE WHAT IT READS IS OF BULK AT MOST 1048576: true; the input reads as it did. -/
def indexDownUptoRow : OpenClaim := { program := "ytpnajbpakeimiaa", sum := "ed1d88f1f9045b8595fdd713e83eba781334922e1b8598639daf93d48ba2ddaa", func := "octavo/octavolaw12.IndexDown", spec := "indexDown", inPlace := ["internal/bytealg.Count", "internal/bytealg.IndexByte", "internal/bytealg.Index", "internal/reflectlite.ValueOf", "internal/reflectlite.Swapper", "(internal/reflectlite.Value).Len"], unfollowed := true, recurses := true, named := ["internal/bytealg.MaxLen"], apart := false, narrowed := true }
def IndexDownUptoSaid : Prop := indexDownUptoRow.holds Try.pinned (OpenSpec.upto indexDownSpec)

end Rows
end Go.Proofs.Ytpnajbpakeimiaa
