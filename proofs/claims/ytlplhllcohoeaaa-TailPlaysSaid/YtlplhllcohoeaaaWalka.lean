/-
  What disk.New, named, Down, change, may, sum, fits and Size answer and leave.
-/
import Derived.Test.YtlplhllcohoeaaaDisk
import Derived.Outline
import Derived.BigQuiet
import Derived.Deep.QuietTactic
import Derived.Deep.DeepCutAuto
import Derived.WalkLawsBesides
import Derived.Handy
namespace Go.Proofs.Ytlplhllcohoeaaa
open Go.RowKit
theorem named_ok (s : ByteArray) (h1 : 1 ≤ s.size) (h16 : s.size ≤ 16) (hb : ∀ k (h : k < s.size), 97 ≤ s[k].toNat ∧ s[k].toNat ≤ 122) (w : World) : Calls Try.prog 24 #[.string s] w fun e w' => e = .returned (.bool true) ∧ w = w' := by
  have HBY := Lib.hid hb
  clear hb
  go_enter Try.func24, Try.ntmps24
  go_wp2_with fail
  go_loopw [3, 14] (fun _ i wr => ∃ k : Nat, k ≤ s.size ∧ i = .int .i64 k ∧ w = wr) (fun _ i _ => s.size - (intOf i).toNat)
  case atStart => exact ⟨0, Nat.zero_le _, rfl, rfl⟩
  case round =>
    obtain ⟨k, hk, rfl, rfl⟩ := hrel
    by_cases hlt : k < s.size
    · obtain ⟨q0, q1⟩ := HBY.out k hlt
      have q2 : ¬ ((s[k].toNat : Int) < 97) := by omega
      have q3 : ¬ ((122 : Int) < s[k].toNat) := by omega
      go_wp2_with fail
      go_roundw
      case rel => exact ⟨k+1, by omega, by go_num, trivial⟩
      case measure => simp [intOf]; omega
    · obtain rfl : k = s.size := by omega
      clear hlt
      go_wp2_with fail
      go_ret
      exact ⟨rfl, rfl⟩
theorem named_tail (w : World) : Calls Try.prog 24 #[.string tl] w fun e w' => e = .returned (.bool true) ∧ w = w' := named_ok tl (by decide) (by decide) (by decide) w
theorem named_a (w : World) : Calls Try.prog 24 #[.string ⟨#[97]⟩] w fun e w' => e = .returned (.bool true) ∧ w = w' := named_ok ⟨#[97]⟩ (by decide) (by decide) (by decide) w
section
variable {w : World} {db mb : Nat} {d : Dv} {lo : Int} {N : Nat} {S : Nat → Prop} {F : Option Nat} {Ap : Option Addr} {np cp : Nat} {ps : List (Int × Value)}
theorem Dk.cells (h : Dk w db mb d lo N S F Ap np cp ps) :
    w.cell? ⟨db, 0, none⟩ = some (.int .i64 d.room) ∧ w.cell? ⟨db, 1, none⟩ = some (.int .i64 d.chg) ∧ w.cell? ⟨db, 2, none⟩ = some (.int .i64 d.left) ∧ w.cell? ⟨db, 3, none⟩ = some (.bool d.armed) ∧ w.cell? ⟨db, 4, none⟩ = some (.bool d.down) ∧ w.cell? ⟨db, 5, none⟩ = some (.map (some mb)) ∧ w.cell? ⟨db, 6, none⟩ = some (.slice Ap np cp) :=
  ⟨cell_of_row _ _ 0 _ 59 (0, 0) h.head, cell_of_row _ _ 1 _ 59 (0, 0) h.head, cell_of_row _ _ 2 _ 59 (0, 0) h.head, cell_of_row _ _ 3 _ 59 (0, 0) h.head, cell_of_row _ _ 4 _ 59 (0, 0) h.head, cell_of_row _ _ 5 _ 59 (0, 0) h.head, cell_of_row _ _ 6 _ 59 (0, 0) h.head⟩
theorem Dk.froz (h : Dk w db mb d lo N S F Ap np cp ps) (j : Nat) : w.frozen? ⟨db, j, none⟩ = false := by
  unfold World.frozen?
  rw [h.head]
  simp
end
theorem Down_any (w : World) (db mb : Nat) (d : Dv) (lo : Int) (N : Nat) (S : Nat → Prop) (F : Option Nat) (Ap : Option Addr) (np cp : Nat) (ps : List (Int × Value)) (h : Dk w db mb d lo N S F Ap np cp ps) :
    Calls Try.prog 22 #[.pointer (some ⟨db, 0, none⟩)] w fun e w' => e = .returned (.bool d.down) ∧ w = w' := by
  obtain ⟨_, _, _, _, c4, _⟩ := h.cells
  clear h
  go_enter Try.func22, Try.ntmps22
  go_wp2_with fail
  go_ret
  exact ⟨rfl, rfl⟩
theorem may_any (w : World) (db mb : Nat) (d : Dv) (lo : Int) (N : Nat) (S : Nat → Prop) (F : Option Nat) (Ap : Option Addr) (np cp : Nat) (ps : List (Int × Value)) (there : Bool) (h : Dk w db mb d lo N S F Ap np cp ps) :
    Calls Try.prog 28 #[.pointer (some ⟨db, 0, none⟩), .string tl, .bool there] w fun e w' => e = .returned (if d.down = true then .tuple #[.pointer none, .int .i64 8] else if F = none ∧ there = true then .tuple #[.pointer none, .int .i64 6] else .tuple #[ptr F, .int .i64 0]) ∧ w = w' := by
  obtain ⟨_, _, _, _, c4, c5, _⟩ := h.cells
  have L1 := h.map.look
  clear h
  cases hd : d.down with
  | true =>
    rw [hd] at c4
    clear L1
    rw [if_pos rfl]
    go_enter Try.func28, Try.ntmps28
    go_wp2_with fail
    refine (named_tail _).mono ?_
    rintro e w1 ⟨rfl, rfl⟩
    go_wp2_with fail
    go_ret2
    exact ⟨rfl, rfl⟩
  | false =>
    rw [hd] at c4
    rw [if_neg (show ¬ (false = true) from by decide)]
    cases F with
    | none =>
      replace L1 : (Instr.lookup 56 (.map (some mb)) (.string tl) false).run Try.prog w = .ok (.pointer none) w := L1
      cases there
      · rw [if_neg (by simp)]
        go_enter Try.func28, Try.ntmps28
        go_wp2_with fail
        refine (named_tail _).mono ?_
        rintro e w1 ⟨rfl, rfl⟩
        go_wp2_with fail
        go_ret2
        exact ⟨rfl, rfl⟩
      · rw [if_pos (by simp)]
        go_enter Try.func28, Try.ntmps28
        go_wp2_with fail
        refine (named_tail _).mono ?_
        rintro e w1 ⟨rfl, rfl⟩
        go_wp2_with fail
        go_ret2
        exact ⟨rfl, rfl⟩
    | some fb =>
      replace L1 : (Instr.lookup 56 (.map (some mb)) (.string tl) false).run Try.prog w = .ok (.pointer (some ⟨fb, 0, none⟩)) w := L1
      rw [if_neg (by simp)]
      cases there
      · go_enter Try.func28, Try.ntmps28
        go_wp2_with fail
        refine (named_tail _).mono ?_
        rintro e w1 ⟨rfl, rfl⟩
        go_wp2_with fail
        go_ret2
        exact ⟨rfl, rfl⟩
      · go_enter Try.func28, Try.ntmps28
        go_wp2_with fail
        refine (named_tail _).mono ?_
        rintro e w1 ⟨rfl, rfl⟩
        go_wp2_with fail
        go_ret2
        exact ⟨rfl, rfl⟩
end Go.Proofs.Ytlplhllcohoeaaa
