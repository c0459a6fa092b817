/-
  That the laws RedoSlots, RedoTurned, RedoHeads and RedoSealed return true: first RedoSlots.
-/
import Derived.Test.YtkjfbgjbifdbjaaWalkm
namespace Go.Proofs.Ytkjfbgjbifdbjaa
open Go.RowKit
theorem slots_walk (body k : Int) (w : World) (b0 : -9223372036854775808 ≤ body) (b1 : body ≤ 9223372036854775807) (k0 : -9223372036854775808 ≤ k) (k1 : k ≤ 9223372036854775807) :
    Calls Try.prog 6 #[.int .i64 body, .int .i64 k] w fun e w' => e = .returned (.bool true) ∧ Below w.heap.size w w' := by
  by_cases hok : 0 ≤ body ∧ body ≤ 2147483647 ∧ 0 ≤ k ∧ k ≤ 64
  · obtain ⟨h0, h1, h2, h3⟩ := hok
    have HF : Hid (64 + body ≤ slotOf body 0 ∧ slotOf body 0 < 128 + body ∧ slotOf body 0 % 64 = 0 ∧ slotOf body k = slotOf body 0 + 64 * k) := Lib.hid ⟨by unfold slotOf; omega, by unfold slotOf; omega, by unfold slotOf; omega, by unfold slotOf; omega⟩
    go_enter Try.func6, Try.ntmps6
    go_wp2_with fail
    refine (Slot_yes body k _ h0 h1 h2 h3).mono ?_
    rintro e w1 ⟨rfl, rfl⟩
    go_wp2_with fail
    refine (awake_any _).mono ?_
    rintro e w2 ⟨rfl, hb⟩
    have HB := Lib.hid hb
    clear hb
    go_wp2_with fail
    refine (Slot_yes body 0 _ h0 h1 (by omega) (by omega)).mono ?_
    rintro e w3 ⟨rfl, rfl⟩
    obtain ⟨f0, f1, f2, f3⟩ := HF.out
    clear HF
    rw [f3]
    generalize slotOf body 0 = f at *
    clear f3
    go_wp2_with fail
    go_ret
    exact ⟨rfl, HB.out⟩
  · have hor : body < 0 ∨ 2147483647 < body ∨ k < 0 ∨ 64 < k := by omega
    clear hok
    by_cases a : body < 0
    · clear hor
      go_enter Try.func6, Try.ntmps6
      go_wp2_with fail
      refine (Slot_no body k _ (.inl a)).mono ?_
      rintro e w1 ⟨rfl, rfl⟩
      go_wp2_with fail
      refine (awake_any _).mono ?_
      rintro e w2 ⟨rfl, hb⟩
      have HB := Lib.hid hb
      clear hb
      go_wp2_with fail
      go_ret
      exact ⟨rfl, HB.out⟩
    · by_cases b : 2147483647 < body
      · clear hor
        go_enter Try.func6, Try.ntmps6
        go_wp2_with fail
        refine (Slot_no body k _ (.inr (.inl b))).mono ?_
        rintro e w1 ⟨rfl, rfl⟩
        go_wp2_with fail
        refine (awake_any _).mono ?_
        rintro e w2 ⟨rfl, hb⟩
        have HB := Lib.hid hb
        clear hb
        go_wp2_with fail
        go_ret
        exact ⟨rfl, HB.out⟩
      · by_cases c : k < 0
        · clear hor
          go_enter Try.func6, Try.ntmps6
          go_wp2_with fail
          refine (Slot_no body k _ (.inr (.inr (.inl c)))).mono ?_
          rintro e w1 ⟨rfl, rfl⟩
          go_wp2_with fail
          refine (awake_any _).mono ?_
          rintro e w2 ⟨rfl, hb⟩
          have HB := Lib.hid hb
          clear hb
          go_wp2_with fail
          go_ret
          exact ⟨rfl, HB.out⟩
        · have d : 64 < k := by omega
          clear hor
          go_enter Try.func6, Try.ntmps6
          go_wp2_with fail
          refine (Slot_no body k _ (.inr (.inr (.inr d)))).mono ?_
          rintro e w1 ⟨rfl, rfl⟩
          go_wp2_with fail
          refine (awake_any _).mono ?_
          rintro e w2 ⟨rfl, hb⟩
          have HB := Lib.hid hb
          clear hb
          go_wp2_with fail
          go_ret
          exact ⟨rfl, HB.out⟩
end Go.Proofs.Ytkjfbgjbifdbjaa
