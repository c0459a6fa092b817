/-
  What scrap.Text answers, for every list and all sources.
-/
import Derived.Test.YtdpjblepcpjomaaSWalkd
import Derived.Test.YtdpjblepcpjomaaSBytes
namespace Go.Proofs.Ytdpjblepcpjomaa.Sc
open Go.RowKit
theorem info5 : (Try.prog.info? 5).map (fun i => (i.zero, i.size, i.bytes)) = some (some (.int .u8 0), 1, 1) := by kernel_rfl
open Classical in
noncomputable def TextE (srcs : List (List Int)) (l : List S) : Int := if MayP l then textE srcs l else 1
open Classical in
noncomputable def TextL (srcs : List (List Int)) (l : List S) : List Int := if TextE srcs l = 0 then textB srcs l else []

theorem TextL_err {srcs : List (List Int)} {l : List S} (h : TextE srcs l ≠ 0) : TextL srcs l = [] := by unfold TextL; rw [if_neg h]
theorem TextL_ok {srcs : List (List Int)} {l : List S} (h : TextE srcs l = 0) : TextL srcs l = textB srcs l := by unfold TextL; rw [if_pos h]
/-- What Text's loop answers, and the reference's. -/
def TextR (w : World) (srcs : List (List Int)) (l : List S) (e : Ending) (w' : World) : Prop :=
  (∃ A' n c, e = .returned (.tuple #[.slice A' n c, .int .i64 (TextE srcs l)]) ∧ OwnB w' w.heap.size A' n c (TextL srcs l)) ∧ Below w.heap.size w w'

end Go.Proofs.Ytdpjblepcpjomaa.Sc
