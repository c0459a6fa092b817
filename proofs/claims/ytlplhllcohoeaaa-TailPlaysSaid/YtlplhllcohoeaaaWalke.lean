/-
  What Write answers and leaves.
-/
import Derived.Test.YtlplhllcohoeaaaTurns
import Derived.Deep.AppendLies
namespace Go.Proofs.Ytlplhllcohoeaaa
open Go.RowKit
section
variable {db mb : Nat} {d : Dv} {lo : Int} {N : Nat} {S : Nat → Prop} {F : Option Nat} {Ap : Option Addr} {np cp : Nat} {ps : List (Int × Value)}
theorem Write_down (w : World) (h : Dk w db mb d lo N S F Ap np cp ps) (hd : d.down = true) (at_ : Int) (A : Option Addr) (n c : Nat) :
    Calls Try.prog 17 #[.pointer (some ⟨db, 0, none⟩), .string tl, .int .i64 at_, .slice A n c] w fun e w' => e = .returned (.int .i64 8) ∧ w = w' := by
  have hm := may_down w false h hd
  clear h
  go_enter Try.func17, Try.ntmps17
  go_wp2_with fail
  refine hm.mono ?_
  rintro e w1 ⟨rfl, rfl⟩
  clear hm
  go_wp2_with fail
  go_ret
  exact ⟨rfl, rfl⟩
/-- Bytes none: nothing is done. -/
theorem Write_none_file (w : World) {fb : Nat} (h : Dk w db mb d lo N S (some fb) Ap np cp ps) (hd : d.down = false) (at_ : Nat) (hat : (at_ : Int) ≤ d.sum) (A : Option Addr) (c : Nat) :
    Calls Try.prog 17 #[.pointer (some ⟨db, 0, none⟩), .string tl, .int .i64 at_, .slice A 0 c] w fun e w' => e = .returned (.int .i64 0) ∧ w = w' := by
  have hm := may_file w false h hd
  obtain ⟨f, An, cn, As, cs, q1, hf, _⟩ := h.fat
  have q : d.sum = f.now.length := by simp [Dv.sum, q1]
  rw [q] at hat
  obtain ⟨f0, _, _⟩ := hf.cells
  have hat2 : at_ ≤ f.now.length := by omega
  clear h hf q q1 hat
  generalize f.now.length = nl at *
  go_enter Try.func17, Try.ntmps17
  go_wp2_with fail
  refine hm.mono ?_
  rintro e w1 ⟨rfl, rfl⟩
  clear hm
  go_wp2_with fail
  go_ret
  exact ⟨rfl, rfl⟩
theorem Write_none_gone (w : World) (h : Dk w db mb d lo N S none Ap np cp ps) (hd : d.down = false) (A : Option Addr) (c : Nat) :
    Calls Try.prog 17 #[.pointer (some ⟨db, 0, none⟩), .string tl, .int .i64 0, .slice A 0 c] w fun e w' => e = .returned (.int .i64 0) ∧ w = w' := by
  have hm := may_new w h hd
  clear h
  go_enter Try.func17, Try.ntmps17
  go_wp2_with fail
  refine hm.mono ?_
  rintro e w1 ⟨rfl, rfl⟩
  clear hm
  go_wp2_with fail
  go_ret
  exact ⟨rfl, rfl⟩
/-- No room, or the power goes. -/
theorem Write_fails_file (w : World) {fb : Nat} (h : Dk w db mb d lo N S (some fb) Ap np cp ps) (hd : d.down = false) (at_ : Nat) (hat : (at_ : Int) ≤ d.sum) (A : Option Addr) (n c : Nat) (hn : 0 < n) (hb : at_ + n ≤ 2199023255552)
    (hf : d.room < max d.sum (at_ + n : Nat) ∧ d.sum < (at_ + n : Nat)) :
    Calls Try.prog 17 #[.pointer (some ⟨db, 0, none⟩), .string tl, .int .i64 at_, .slice A n c] w fun e w' => e = .returned (.int .i64 7) ∧ Below w.heap.size w w' := by
  have hm := may_file w false h hd
  obtain ⟨f, An, cn, As, cs, q1, hff, _⟩ := h.fat
  have q : d.sum = f.now.length := by simp [Dv.sum, q1]
  obtain ⟨f0, _, _⟩ := hff.cells
  have hat2 : at_ ≤ f.now.length := by omega
  have hft := fits_file w h ((at_ + n : Nat) : Int) (by omega) (by omega)
  rw [show fitE d ((at_ + n : Nat) : Int) = 7 from if_pos ⟨hf.2, by omega⟩] at hft
  have q2 : IntKind.i64.wrap ((at_ : Int) + n) = ((at_ + n : Nat) : Int) := by rw [IntWalk.i64_in _ (by omega)]; omega
  have q3 : (f.now.length : Int) < ((at_ + n : Nat) : Int) := by omega
  have q4 : ¬ n = 0 := by omega
  have q5 : max (f.now.length : Int) ((at_ + n : Nat) : Int) = ((at_ + n : Nat) : Int) := by omega
  clear h hff q q1 hat hf
  generalize f.now.length = nl at *
  go_enter Try.func17, Try.ntmps17
  go_wp2_with fail
  refine hm.mono ?_
  rintro e w1 ⟨rfl, rfl⟩
  clear hm
  go_wp2_with fail
  refine hft.mono ?_
  rintro e w1 ⟨rfl, hbb⟩
  have HB := Lib.hid hbb
  clear hft hbb
  go_wp2_with fail
  go_ret
  exact ⟨rfl, HB.out⟩
end
end Go.Proofs.Ytlplhllcohoeaaa
