/-
  What RangesCounts answers: true.
-/
import Derived.Test.YtmfokaicfcnhgaaLawa
namespace Go.Proofs.Ytmfokaicfcnhgaa
open Go.RowKit
theorem cnt_bd (p : Int → Prop) (n : Nat) : 0 ≤ cnt p n ∧ cnt p n ≤ n := by
  induction n with
  | zero => exact ⟨Int.le_refl _, Int.le_refl _⟩
  | succ n ih => simp only [cnt]; split <;> omega
theorem cnt_has (l : List R) (k : Nat) : cnt (fun x => 0 ≤ x ∧ In l x) (k+1) = cnt (fun x => 0 ≤ x ∧ In l x) k + (if hasB l k = true then 1 else 0) := by
  simp only [cnt]
  congr 1
  by_cases h : 0 ≤ (k : Int) ∧ In l k
  · rw [if_pos h, if_pos (hasB_of h)]
  · rw [if_neg h, hasB_not h]; rfl
set_option maxHeartbeats 1600000 in
theorem counts_walk (A0 : Option Addr) (len0 cap0 : Nat) (w : World) (l0 : List R) (hl0 : l0.length = len0) (hr0 : Rd w w.heap.size A0 l0) (hI0 : IR l0) (hno0 : A0 = none → len0 = 0 ∧ cap0 = 0) (hm0 : len0 ≤ 9223372036854775807) :
    Calls Try.prog 5 #[.slice A0 len0 cap0] w fun e w' => e = .returned (.bool true) ∧ Below w.heap.size w w' := by
  have L0 := Lib.hid hl0; have R0_0 := Lib.hid hr0; have I0 := Lib.hid hI0; have N0 := Lib.hid hno0
  clear hl0 hr0 hI0 hno0
  by_cases h60 : len0 ≤ 60
  · have h60 := h60
    go_enter Try.func5, Try.ntmps5
    go_wp2_with fail
    refine (awake_any _).mono ?_
    rintro e w1 ⟨rfl, b1⟩
    have R0_1 := Lib.hid (R0_0.out.up b1)
    have B1 := Lib.hid b1
    clear b1 R0_0
    go_wp2_with fail
    refine (long_no A0 len0 cap0 none 0 0 _ (by omega) (by omega)).mono ?_
    rintro e wl ⟨rfl, rfl⟩
    go_wp2_with fail
    obtain ⟨wq, hwq⟩ : ∃ wq, wq = w1 := ⟨_, rfl⟩
    go_loopw [3] (fun vi wr => ∃ i : Nat, i ≤ len0 ∧ vi = .int .i64 i ∧ Hid (∀ r ∈ l0.take i, r.2 ≤ 400) ∧ w1 = wr) (fun vi _ => len0 - (intOf vi).toNat)
    case atStart => exact ⟨0, Nat.zero_le _, rfl, Lib.hid (fun r hr => by simp at hr), rfl⟩
    case round =>
      clear hwq
      obtain ⟨i, hi, rfl, HF, rfl⟩ := hrel
      by_cases hlt : i < len0
      · obtain ⟨s, hs⟩ := get_some l0 i (by have := L0.out; omega)
        obtain ⟨b, off, rfl, hb', c0, c1⟩ := R0_1.out i s hs
        by_cases hc : s.2 ≤ 400
        · have HF2 : Hid (∀ r ∈ l0.take (i+1), r.2 ≤ 400) := Lib.hid (fun r hr => by
            rw [take_snoc l0 i s hs] at hr
            rcases List.mem_append.1 hr with hr | hr
            · exact HF.out r hr
            · simp at hr; subst hr; exact hc)
          clear hs
          go_wp2_with fail
          go_roundw
          case rel => exact ⟨i+1, by omega, by go_num, HF2, trivial⟩
          case measure => simp [intOf]; omega
        · clear hs
          go_wp2_with fail
          go_ret
          exact ⟨rfl, B1.out⟩
      · obtain rfl : i = len0 := by omega
        have HT : Hid (tot (nl l0) = cnt (fun x => 0 ≤ x ∧ In l0 x) 400) := Lib.hid (tot_small (by have := HF.out; rwa [List.take_of_length_le (Nat.le_of_eq L0.out)] at this))
        clear hlt
        go_wp2_with fail
        go_loopw [4, 5] (fun vn vk wr => ∃ k : Nat, k ≤ 400 ∧ vk = .int .i64 k ∧ vn = .int .i64 (cnt (fun x => 0 ≤ x ∧ In l0 x) k) ∧ Below w1.heap.size w1 wr) (fun _ vk _ => 400 - (intOf vk).toNat)
        case atStart => exact ⟨0, Nat.zero_le _, rfl, rfl, Below.refl _ _⟩
        case round =>
          obtain ⟨k, hk, rfl, rfl, hb⟩ := hrel
          have HB := Lib.hid hb
          obtain ⟨q0, q1⟩ := cnt_bd (fun x => 0 ≤ x ∧ In l0 x) k
          by_cases hlt : k < 400
          · have hlt2 : (k : Int) < 400 := by omega
            have HS := Lib.hid (cnt_has l0 k)
            clear hb
            generalize cnt (fun x => 0 ≤ x ∧ In l0 x) k = T at *
            go_wp2_with fail
            refine (Has_any A0 i cap0 k _ l0 L0.out (R0_1.out.up HB.out) (by omega)).mono ?_
            rintro e wn ⟨rfl, bn⟩
            have HB2 := Lib.hid (below_up HB.out bn)
            have HS2 := HS
            clear bn HS
            cases hX : hasB l0 (k : Int)
            · have HS3 : Hid (cnt (fun x => 0 ≤ x ∧ In l0 x) (k+1) = T) := Lib.hid (by have := HS2.out; rw [hX] at this; simpa using this)
              clear hX
              go_wp2_with fail
              go_roundw
              case rel => exact ⟨k+1, by omega, by go_num, by rw [HS3.out], HB2.out⟩
              case measure => simp [intOf]; omega
            · have HS3 : Hid (cnt (fun x => 0 ≤ x ∧ In l0 x) (k+1) = T + 1) := Lib.hid (by have := HS2.out; rw [hX] at this; simpa using this)
              clear hX
              go_wp2_with fail
              go_roundw
              case rel => exact ⟨k+1, by omega, by go_num, by rw [HS3.out], HB2.out⟩
              case measure => simp [intOf]; omega
          · obtain rfl : k = 400 := by omega
            clear hlt hb
            go_wp2_with fail
            refine (Total_any A0 i cap0 _ l0 L0.out (R0_1.out.up HB.out) I0.out (by omega)).mono ?_
            rintro e wn ⟨rfl, bn⟩
            rw [HT.out]
            have HB2 := Lib.hid (below_up HB.out bn)
            clear bn
            go_wp2_with fail
            go_ret
            exact ⟨rfl, below_up B1.out HB2.out⟩
  · have hlong : 60 < len0 := by omega
    go_enter Try.func5, Try.ntmps5
    go_wp2_with fail
    refine (awake_any _).mono ?_
    rintro e w1 ⟨rfl, b1⟩
    have R0_1 := Lib.hid (R0_0.out.up b1)
    have B1 := Lib.hid b1
    clear b1 R0_0
    go_wp2_with fail
    refine (long_yes A0 len0 cap0 none 0 0 _ (.inl (by omega))).mono ?_
    rintro e wl ⟨rfl, rfl⟩
    go_wp2_with fail
    refine (awake_any _).mono ?_
    rintro e w2 ⟨rfl, b2⟩
    have R0_2 := Lib.hid (R0_1.out.up b2)
    have B2 := Lib.hid (below_up B1.out b2)
    clear b2 R0_1 B1
    go_wp2_with fail
    go_ret
    exact ⟨rfl, B2.out⟩
end Go.Proofs.Ytmfokaicfcnhgaa
