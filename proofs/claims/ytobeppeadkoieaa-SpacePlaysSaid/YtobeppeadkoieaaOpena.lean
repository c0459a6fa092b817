/-
  Numbers that came in.
-/
import Derived.Test.YtobeppeadkoieaaRows
import Derived.ChangeSame
import Derived.OpenShut
import Derived.Deep.Fields
import Derived.Deep.Slices
import Derived.ChangeOld
import Derived.WalkKit
namespace Go.Proofs.Ytobeppeadkoieaa
open Go.ChangeShapes Go.WideShapes Go.Deep Go.RowKit
theorem laidOut : laidOutB Try.prog = true := by kernel_rfl
theorem own : ownKnob Try.prog.godebug = none := by kernel_rfl
theorem wf_bounds {n : Int} (h : (Lit.int .i64 n).wf = true) : -9223372036854775808 ≤ n ∧ n ≤ 9223372036854775807 := bounds_i64 h
end Go.Proofs.Ytobeppeadkoieaa
