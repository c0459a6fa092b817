/-
  What the reference's Same answers, of any two rows of bytes; and its OpenHead.
-/
import Derived.Test.YtkjfbgjbifdbjaaWalkj
import Derived.Test.YtkjfbgjbifdbjaaWalkf
import Derived.StillTailTactics
namespace Go.Proofs.Ytkjfbgjbifdbjaa
open Go.RowKit
theorem Same_any (A : Option Addr) (n c : Nat) (A2 : Option Addr) (n2 c2 : Nat) (w : World) (l m : List Int) (hl : l.length = n) (hm : m.length = n2) (hr : RdB w w.heap.size A l) (hr2 : RdB w w.heap.size A2 m) (hn : n ≤ 9223372036854775807) (hn2 : n2 ≤ 9223372036854775807) (z : Bool) (hz : decide (l = m) = z) :
    Calls Try.prog 10 #[.slice A n c, .slice A2 n2 c2] w fun e w' => e = .returned (.bool z) ∧ Below w.heap.size w w' := by
  by_cases he : n = n2
  · subst he
    have H := Lib.hid hl; have H2 := Lib.hid hm; have HR := Lib.hid hr; have HR2 := Lib.hid hr2; have HZ := Lib.hid hz
    clear hl hm hr hr2 hz
    go_enter Try.func10, Try.ntmps10
    go_wp2_with fail
    go_loopw [5] (fun i wr => ∃ k : Nat, k ≤ n ∧ i = .int .i64 k ∧ Below w.heap.size w wr ∧ l.take k = m.take k) (fun i _ => n - (intOf i).toNat)
    case atStart => exact ⟨0, Nat.zero_le _, rfl, Below.refl _ _, rfl⟩
    case round =>
      obtain ⟨k, hk, rfl, hb, ht⟩ := hrel
      have HT := Lib.hid ht
      clear ht
      by_cases hlt : k < n
      · obtain ⟨s, hs⟩ := get_some l k (by have := H.out; omega)
        obtain ⟨t, ht⟩ := get_some m k (by have := H2.out; omega)
        obtain ⟨b, off, rfl, hb', h0⟩ := HR.out.below hb (by omega) k s hs
        obtain ⟨b2, off2, rfl, hb2', g0⟩ := HR2.out.below hb (by omega) k t ht
        have HS := Lib.hid hs
        have HT2 := Lib.hid ht
        clear hs ht
        by_cases hst : s = t
        · subst hst
          go_wp2_with fail
          go_quiet (fail)
          go_wp2_with fail
          go_roundw
          case rel => exact ⟨k+1, by omega, by go_num, belowDrewN hb _, by rw [take_snoc l k s HS.out, take_snoc m k s HT2.out, HT.out]⟩
          case measure => simp [intOf]; omega
        · have hzf : z = false := by
            rw [← HZ.out, decide_eq_false_iff_not]
            intro e
            have h1 := HS.out
            rw [e, HT2.out] at h1
            injection h1 with h1
            exact hst h1.symm
          subst hzf
          have hne : (s != t) = true := by simpa using hst
          have hne' : (s == t) = false := by simpa using hst
          go_wp2_with fail
          go_quiet (fail)
          go_wp2_with fail
          go_ret
          exact ⟨rfl, belowDrewN hb _⟩
      · obtain rfl : n = k := by omega
        have hzt : z = true := by
          rw [← HZ.out, decide_eq_true_iff]
          have h1 := HT.out
          rwa [List.take_of_length_le (Nat.le_of_eq H.out), List.take_of_length_le (Nat.le_of_eq H2.out)] at h1
        subst hzt
        clear hlt
        go_wp2_with fail
        go_ret
        exact ⟨rfl, hb⟩
  · have hzf : z = false := by
      rw [← hz, decide_eq_false_iff_not]
      intro e
      exact he (by rw [← hl, ← hm, e])
    subst hzf
    have hne : ((n : Int) != (n2 : Int)) = true := by simp; omega
    have hne' : ((n : Int) == (n2 : Int)) = false := by simp; omega
    have hne2 : (n == n2) = false := by simpa using he
    have hne3 : (n != n2) = true := by simpa using he
    clear hz hl hm hr hr2
    go_enter Try.func10, Try.ntmps10
    go_wp2_with fail
    go_ret
    exact ⟨rfl, Below.refl _ _⟩
end Go.Proofs.Ytkjfbgjbifdbjaa
