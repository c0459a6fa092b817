/-
  Run: a plan that may not be run is refused.
-/
import Derived.Test.YteceephenfmdoaaNRow
import Derived.Test.YteceephenfmdoaaMCheck
namespace Go.Proofs.Yteceephenfmdoaa
open Go.RowKit
open Sc (RdB OwnB bcells RdBL)
set_option maxRecDepth 100000 in
set_option maxHeartbeats 4000000 in
theorem Run_bad (p : PlV) (OA : Option Addr) (on oc : Nat) (TA : Option Addr) (tn tc : Nat) (w : World) (hP : PlOk w w.heap.size p) (hPl : ¬ PlanP p.pln on tn) (hoc : on ≤ oc ∧ oc ≤ maxLen) (htc : tn ≤ tc ∧ tc ≤ maxLen) (hsl : p.stash.length ≤ 1099511627776) (hwl : p.waves.length ≤ 1000000) :
    Calls Try.prog 23 #[.agg p.cells, .slice OA on oc, .slice TA tn tc] w fun e w' => e = .returned (.tuple #[.slice none 0 0, .int .i64 4]) ∧ Below w.heap.size w w' := by
  have hcv : checkV p.pln on tn = 4 := by unfold checkV; rw [if_neg (by omega), if_neg hPl]
  have HCV := Lib.hid hcv
  unfold maxLen at hoc htc
  have hb1 : Below w.heap.size w (w.alloc (.cells p.cells 32)) := (Below.refl _ _).alloc (Nat.le_refl _) _
  have HB1 := Lib.hid hb1
  have HP1 := Lib.hid ((hP.below hb1 (Nat.le_refl _)).more hb1.size)
  have HSL : Hid (p.stash.length ≤ 1099511627776 ∧ p.waves.length ≤ 1000000) := Lib.hid ⟨hsl, hwl⟩
  clear hcv hPl hP hb1
  obtain ⟨n, SA, sc, stash, WA, wq, waves⟩ := p
  unfold PlV.cells at *
  simp only at *
  go_enter Try.func23, Try.ntmps23
  go_wp2_with fail
  generalize w.alloc (.cells #[.int .i64 n, .slice SA stash.length sc, .slice WA waves.length wq] 32) = W1 at *
  refine (Check_any ⟨n, SA, sc, stash, WA, wq, waves⟩ on tn W1 HP1.out (by omega) (by omega) HSL.out.1 HSL.out.2).mono ?_
  rw [HCV.out]
  rintro e w2 ⟨rfl, hb2⟩
  have HB2 := Lib.hid (HB1.out.trans (hb2.mono HB1.out.size))
  clear hb2 HB1 HP1
  go_wp2_with fail
  go_ret2
  exact ⟨rfl, HB2.out⟩
end Go.Proofs.Yteceephenfmdoaa
