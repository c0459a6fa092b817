/-
  That the laws IndexNil, IndexParts and IndexCounts return true.
-/
import Derived.Test.YtpnajbpakeimiaaIWalkf
namespace Go.Proofs.Ytpnajbpakeimiaa
open Go.RowKit
set_option maxRecDepth 40000 in
theorem nil_walk (size : Int) (w : World) : Calls Try.prog 5 #[.int .i64 size] w fun e w' => e = .returned (.bool true) ∧ Below w.heap.size w w' := by
  by_cases hc : 0 ≤ size ∧ size ≤ 1048576
  · obtain ⟨h0, h1⟩ := hc
    go_enter Try.func5, Try.ntmps5
    go_wp2_with fail
    refine (Count_nil _ _ _).mono ?_
    rintro e w1 ⟨rfl, rfl⟩
    go_wp2_with fail
    refine (New_no _ _ _ _ (.inl rfl)).mono ?_
    rintro e w1 ⟨rfl, rfl⟩
    go_wp2_with fail
    refine (New_any _ 0 (by omega) (by omega) 0).mono ?_
    rintro e w1 ⟨db, mb, rfl, hd1, l1, l2, hb1⟩
    have HB1 := Lib.hid hb1
    clear hd1 hb1
    go_wp2_with fail
    refine (New_index w1 db size h0 h1).mono ?_
    rintro e w2 ⟨⟨xb, cb, rfl, _, _, _⟩, hb2⟩
    have HB2 := Lib.hid (below_up HB1.out hb2)
    clear hb2
    go_wp2_with fail
    refine (awake_any w2).mono ?_
    rintro e w3 ⟨rfl, hb3⟩
    have HB3 := Lib.hid (below_up HB2.out hb3)
    clear hb3
    go_wp2_with fail
    refine (Known_nil _).mono ?_
    rintro e w4 ⟨rfl, rfl⟩
    go_wp2_with fail
    refine (IRead_nil _).mono ?_
    rintro e w4 ⟨rfl, rfl⟩
    go_wp2_with fail
    go_ret
    exact ⟨rfl, HB3.out⟩
  · have hd : (decide (0 ≤ size) && decide (size ≤ 1048576)) = false := by
      by_cases h0 : 0 ≤ size
      · have h1 : ¬ size ≤ 1048576 := by omega
        simp [h1]
      · simp [h0]
    by_cases h0 : 0 ≤ size
    · have h1 : ¬ size ≤ 1048576 := by omega
      clear hc hd
      go_enter Try.func5, Try.ntmps5
      go_wp2_with fail
      refine (Count_nil _ _ _).mono ?_
      rintro e w1 ⟨rfl, rfl⟩
      go_wp2_with fail
      refine (New_no _ _ _ _ (.inl rfl)).mono ?_
      rintro e w1 ⟨rfl, rfl⟩
      go_wp2_with fail
      refine (New_any _ 0 (by omega) (by omega) 0).mono ?_
      rintro e w1 ⟨db, mb, rfl, hd1, l1, l2, hb1⟩
      have HB1 := Lib.hid hb1
      clear hd1 hb1
      go_wp2_with fail
      refine (New_no _ _ _ _ (.inr ⟨⟨_, rfl⟩, by omega⟩)).mono ?_
      rintro e w2 ⟨rfl, rfl⟩
      go_wp2_with fail
      refine (awake_any _).mono ?_
      rintro e w3 ⟨rfl, hb3⟩
      have HB3 := Lib.hid (below_up HB1.out hb3)
      clear hb3
      go_wp2_with fail
      refine (Known_nil _).mono ?_
      rintro e w4 ⟨rfl, rfl⟩
      go_wp2_with fail
      refine (IRead_nil _).mono ?_
      rintro e w4 ⟨rfl, rfl⟩
      go_wp2_with fail
      go_ret
      exact ⟨ret_bool (by simp [h1]), HB3.out⟩
    · clear hc hd
      go_enter Try.func5, Try.ntmps5
      go_wp2_with fail
      refine (Count_nil _ _ _).mono ?_
      rintro e w1 ⟨rfl, rfl⟩
      go_wp2_with fail
      refine (New_no _ _ _ _ (.inl rfl)).mono ?_
      rintro e w1 ⟨rfl, rfl⟩
      go_wp2_with fail
      refine (New_any _ 0 (by omega) (by omega) 0).mono ?_
      rintro e w1 ⟨db, mb, rfl, hd1, l1, l2, hb1⟩
      have HB1 := Lib.hid hb1
      clear hd1 hb1
      go_wp2_with fail
      refine (New_no _ _ _ _ (.inr ⟨⟨_, rfl⟩, by omega⟩)).mono ?_
      rintro e w2 ⟨rfl, rfl⟩
      go_wp2_with fail
      refine (awake_any _).mono ?_
      rintro e w3 ⟨rfl, hb3⟩
      have HB3 := Lib.hid (below_up HB1.out hb3)
      clear hb3
      go_wp2_with fail
      refine (Known_nil _).mono ?_
      rintro e w4 ⟨rfl, rfl⟩
      go_wp2_with fail
      refine (IRead_nil _).mono ?_
      rintro e w4 ⟨rfl, rfl⟩
      go_wp2_with fail
      go_ret
      exact ⟨rfl, HB3.out⟩
set_option maxRecDepth 40000 in
set_option maxHeartbeats 1000000 in
theorem parts_walk (A : Option Addr) (m c : Nat) (i j k : Int) (w : World) (b : List Int) (hlen : b.length = m) (hr : RdB w w.heap.size A b) (hno : A = none → m = 0 ∧ c = 0) (hB : Byt b) :
    Calls Try.prog 4 #[.slice A m c, .int .i64 i, .int .i64 j, .int .i64 k] w fun e w' => e = .returned (.bool true) ∧ Below w.heap.size w w' := by
  by_cases hc : m ≤ 6000 ∧ 0 ≤ i ∧ i ≤ j ∧ j ≤ k ∧ k ≤ (m : Int)
  · obtain ⟨h0, h1, h2, h3, h4⟩ := hc
    obtain ⟨i, rfl⟩ := Int.eq_ofNat_of_zero_le h1
    obtain ⟨j, rfl⟩ := Int.eq_ofNat_of_zero_le (show 0 ≤ j by omega)
    obtain ⟨k, rfl⟩ := Int.eq_ofNat_of_zero_le (show 0 ≤ k by omega)
    have g0 : ¬ (6000 : Int) < (m : Int) := by omega
    have g1 : ¬ (i : Int) < 0 := by omega
    have g2 : ¬ (j : Int) < (i : Int) := by omega
    have g3 : ¬ (k : Int) < (j : Int) := by omega
    have g4 : ¬ (m : Int) < (k : Int) := by omega
    have HLEN := Lib.hid hlen; have HR := Lib.hid hr; have HNO := Lib.hid hno; have HBY := Lib.hid hB
    clear hlen hr hno hB
    go_enter Try.func4, Try.ntmps4
    go_wp2_with fail
    refine (awake_any w).mono ?_
    rintro e w1 ⟨rfl, hb1⟩
    have HB1 := Lib.hid hb1
    clear hb1
    go_wp2_with fail
    refine (of_any w1 A m c b HLEN.out (HR.out.up HB1.out) HNO.out (by omega)).mono ?_
    rintro e w2 ⟨⟨xb, cb, db, mb, fb, S, rfl, hl⟩, hb2⟩
    have HL2 := Lib.hid hl
    have HB2 := Lib.hid (below_up HB1.out hb2)
    have hs2 := hb2.size
    clear hl hb2
    have n1 := cnt_seg_le b i j
    have n2 := cnt_seg_le b j k
    have n3 := cnt_seg b (i := i) (j := j) (k := k) (by omega) (by omega)
    go_wp2_with fail
    refine (LCount w2 HL2.out rfl HBY.out (by have := HLEN.out; omega) i j (by omega) (by have := HLEN.out; omega) (by omega) (by omega) (by omega) hs2).mono ?_
    rintro e w3 ⟨rfl, hl, hb3⟩
    have HL3 := Lib.hid hl
    have HB3 := Lib.hid (HB2.out.trans (hb3.mono (by have := HB1.out.size; omega)))
    have hs3 := hb3.size
    clear hl hb3
    obtain ⟨r1, r2⟩ := run_rd b j (by have := HLEN.out; omega) (j - i) i (fun _ => none, 0)
    simp only at r1 r2
    generalize run b j (j - i) i (fun _ => none, 0) = q1 at *
    go_wp2_with fail
    refine (LCount w3 HL3.out rfl HBY.out (by have := HLEN.out; omega) j k (by omega) (by have := HLEN.out; omega) (by omega) (by omega) (by omega) (by omega)).mono ?_
    rintro e w4 ⟨rfl, hl, hb4⟩
    have HL4 := Lib.hid hl
    have HB4 := Lib.hid (HB3.out.trans (hb4.mono (by have := HB1.out.size; omega)))
    have hs4 := hb4.size
    clear hl hb4
    obtain ⟨r3, r4⟩ := run_rd b k (by have := HLEN.out; omega) (k - j) j (q1.1, q1.2)
    simp only at r3 r4
    generalize run b k (k - j) j (q1.1, q1.2) = q2 at *
    go_wp2_with fail
    refine (LCount w4 HL4.out rfl HBY.out (by have := HLEN.out; omega) i k (by omega) (by have := HLEN.out; omega) (by omega) (by omega) (by omega) (by omega)).mono ?_
    rintro e w5 ⟨rfl, hl, hb5⟩
    have HB5 := Lib.hid (HB4.out.trans (hb5.mono (by have := HB1.out.size; omega)))
    clear hl hb5
    have q4 : IntKind.i64.wrap (((cnt (seg b i j) : Nat) : Int) + ((cnt (seg b j k) : Nat) : Int)) = ((cnt (seg b i k) : Nat) : Int) := by rw [IntWalk.i64_in _ (by omega)]; omega
    clear n1 n2 n3 r1 r2 r3 r4
    generalize cnt (seg b i j) = x1 at *
    generalize cnt (seg b j k) = x2 at *
    generalize cnt (seg b i k) = x3 at *
    go_wp2_with fail
    go_ret
    exact ⟨rfl, HB5.out⟩
  · have hcs : (6000 : Int) < m ∨ i < 0 ∨ j < i ∨ k < j ∨ (m : Int) < k := by omega
    clear hc hlen hr hno hB
    by_cases g0 : (6000 : Int) < m
    · clear hcs
      go_enter Try.func4, Try.ntmps4
      go_wp2_with fail
      refine (awake_any w).mono ?_
      rintro e w1 ⟨rfl, hb1⟩
      have HB1 := Lib.hid hb1
      clear hb1
      go_wp2_with fail
      refine (awake_any _).mono ?_
      rintro e w2 ⟨rfl, hb2⟩
      have HB2 := Lib.hid (below_up HB1.out hb2)
      clear hb2
      go_wp2_with fail
      go_ret
      exact ⟨rfl, HB2.out⟩
    · by_cases g1 : i < 0
      · clear hcs
        go_enter Try.func4, Try.ntmps4
        go_wp2_with fail
        refine (awake_any w).mono ?_
        rintro e w1 ⟨rfl, hb1⟩
        have HB1 := Lib.hid hb1
        clear hb1
        go_wp2_with fail
        refine (awake_any _).mono ?_
        rintro e w2 ⟨rfl, hb2⟩
        have HB2 := Lib.hid (below_up HB1.out hb2)
        clear hb2
        go_wp2_with fail
        go_ret
        exact ⟨rfl, HB2.out⟩
      · by_cases g2 : j < i
        · clear hcs
          go_enter Try.func4, Try.ntmps4
          go_wp2_with fail
          refine (awake_any w).mono ?_
          rintro e w1 ⟨rfl, hb1⟩
          have HB1 := Lib.hid hb1
          clear hb1
          go_wp2_with fail
          refine (awake_any _).mono ?_
          rintro e w2 ⟨rfl, hb2⟩
          have HB2 := Lib.hid (below_up HB1.out hb2)
          clear hb2
          go_wp2_with fail
          go_ret
          exact ⟨rfl, HB2.out⟩
        · by_cases g3 : k < j
          · clear hcs
            go_enter Try.func4, Try.ntmps4
            go_wp2_with fail
            refine (awake_any w).mono ?_
            rintro e w1 ⟨rfl, hb1⟩
            have HB1 := Lib.hid hb1
            clear hb1
            go_wp2_with fail
            refine (awake_any _).mono ?_
            rintro e w2 ⟨rfl, hb2⟩
            have HB2 := Lib.hid (below_up HB1.out hb2)
            clear hb2
            go_wp2_with fail
            go_ret
            exact ⟨rfl, HB2.out⟩
          · have g4 : (m : Int) < k := by omega
            clear hcs
            go_enter Try.func4, Try.ntmps4
            go_wp2_with fail
            refine (awake_any w).mono ?_
            rintro e w1 ⟨rfl, hb1⟩
            have HB1 := Lib.hid hb1
            clear hb1
            go_wp2_with fail
            refine (awake_any _).mono ?_
            rintro e w2 ⟨rfl, hb2⟩
            have HB2 := Lib.hid (below_up HB1.out hb2)
            clear hb2
            go_wp2_with fail
            go_ret
            exact ⟨rfl, HB2.out⟩
end Go.Proofs.Ytpnajbpakeimiaa
