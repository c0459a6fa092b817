/-
  The disk's Sync where it ends early: the power is off, or no file, or the power goes.
-/
import Derived.Test.YtlplhllcohoeaaaSettled
namespace Go.Proofs.Ytlplhllcohoeaaa
open Go.RowKit
section
variable {db mb : Nat} {d : Dv} {lo : Int} {N : Nat} {S : Nat → Prop} {F : Option Nat} {Ap : Option Addr} {np cp : Nat} {ps : List (Int × Value)}
theorem Sync_down (w : World) (h : Dk w db mb d lo N S F Ap np cp ps) (hd : d.down = true) :
    Calls Try.prog 32 #[.pointer (some ⟨db, 0, none⟩), .string tl] w fun e w' => e = .returned (.int .i64 8) ∧ w = w' := by
  have HM := Lib.hid (may_down w true h hd)
  clear h hd
  go_enter Try.func32, Try.ntmps32
  go_wp2_with fail
  refine HM.out.mono ?_
  rintro e w1 ⟨rfl, rfl⟩
  go_wp2_with fail
  go_ret
  exact ⟨rfl, rfl⟩
theorem Sync_gone (w : World) (h : Dk w db mb d lo N S none Ap np cp ps) (hd : d.down = false) :
    Calls Try.prog 32 #[.pointer (some ⟨db, 0, none⟩), .string tl] w fun e w' => e = .returned (.int .i64 6) ∧ w = w' := by
  have HM := Lib.hid (may_gone w h hd)
  clear h hd
  go_enter Try.func32, Try.ntmps32
  go_wp2_with fail
  refine HM.out.mono ?_
  rintro e w1 ⟨rfl, rfl⟩
  go_wp2_with fail
  go_ret
  exact ⟨rfl, rfl⟩
theorem Sync_off (w : World) {fb : Nat} (h : Dk w db mb d lo N S (some fb) Ap np cp ps) (hd : d.down = false) (ha : d.armed = true) (hl : d.left = 0) :
    Calls Try.prog 32 #[.pointer (some ⟨db, 0, none⟩), .string tl] w fun e w' => e = .returned (.int .i64 8) ∧ Dk w' db mb { d with down := true } lo N S (some fb) Ap np cp ps ∧ Fr w w' S S := by
  have HM := Lib.hid (may_file w true h hd)
  have HC := Lib.hid (change_off w h ha hl)
  clear h hd
  go_enter Try.func32, Try.ntmps32
  go_wp2_with fail
  refine HM.out.mono ?_
  rintro e w1 ⟨rfl, rfl⟩
  go_wp2_with fail
  refine HC.out.mono ?_
  rintro e w1 ⟨rfl, hd, hf⟩
  have HD := Lib.hid hd
  have HF := Lib.hid hf
  clear hd hf
  go_wp2_with fail
  go_ret
  exact ⟨rfl, HD.out, HF.out⟩
end
end Go.Proofs.Ytlplhllcohoeaaa
