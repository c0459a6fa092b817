/-
  What RangesSets answers: true.
-/
import Derived.Test.YtmfokaicfcnhgaaLawa
namespace Go.Proofs.Ytmfokaicfcnhgaa
open Go.RowKit
theorem has_either (a b : List R) (x : Int) : hasB (eitherR a b) x = (hasB a x || hasB b x) := by
  rw [Bool.eq_iff_iff, Bool.or_eq_true, hasB_iff, hasB_iff, hasB_iff, (eitherR_is a b).2]
  exact ⟨fun h => h.2.2.elim (fun h' => .inl ⟨h.1, h'⟩) (fun h' => .inr ⟨h.1, h'⟩), fun h => h.elim (fun h => ⟨h.1, h.1, .inl h.2⟩) (fun h => ⟨h.1, h.1, .inr h.2⟩)⟩
theorem has_both (a b : List R) (x : Int) : hasB (bothR a b) x = (hasB a x && hasB b x) := by
  rw [Bool.eq_iff_iff, Bool.and_eq_true, hasB_iff, hasB_iff, hasB_iff, (bothR_is a b).2]
  exact ⟨fun h => ⟨⟨h.1, h.2.2.1⟩, h.1, h.2.2.2⟩, fun h => ⟨h.1.1, h.1.1, h.1.2, h.2.2⟩⟩
theorem has_less (a b : List R) (x : Int) : hasB (lessR a b) x = (hasB a x && !hasB b x) := by
  rw [Bool.eq_iff_iff, Bool.and_eq_true, Bool.not_eq_true', ← Bool.not_eq_true, hasB_iff, hasB_iff, hasB_iff, (lessR_is a b).2]
  exact ⟨fun h => ⟨⟨h.1, h.2.2.1⟩, fun h' => h.2.2.2 h'.2⟩, fun h => ⟨h.1.1, h.1.1, h.1.2, fun h' => h.2 ⟨h.1.1, h'⟩⟩⟩
theorem tot_of (m : List R) (h : Right m) (hn : Nn m) : ∃ t, tot (nl m) = t ∧ tot m = t ∧ 0 ≤ t ∧ t ≤ 9223372036854775807 := ⟨tot m, by rw [right_nl h], rfl, tot_bound h hn⟩
theorem tot_all (l0 l1 : List R) (h0 : IR l0) (h1 : IR l1) : ∃ te tb ta tc td, tot (nl (eitherR l0 l1)) = te ∧ tot (nl (bothR l0 l1)) = tb ∧ tot (nl l0) = ta ∧ tot (nl l1) = tc ∧ tot (nl (lessR l0 l1)) = td ∧ te + tb = ta + tc ∧ td + tb = ta ∧
    (0 ≤ te ∧ te ≤ 9223372036854775807) ∧ (0 ≤ tb ∧ tb ≤ 9223372036854775807) ∧ (0 ≤ ta ∧ ta ≤ 9223372036854775807) ∧ (0 ≤ tc ∧ tc ≤ 9223372036854775807) ∧ (0 ≤ td ∧ td ≤ 9223372036854775807) := by
  obtain ⟨te, e1, e2, e3⟩ := tot_of _ (eitherR_is l0 l1).1 (eitherR_nn h0 h1)
  obtain ⟨tb, b1, b2, b3⟩ := tot_of _ (bothR_is l0 l1).1 (bothR_nn h0)
  obtain ⟨td, d1, d2, d3⟩ := tot_of _ (lessR_is l0 l1).1 (lessR_nn h0)
  have s1 := tot_sets h0 h1
  have s2 := tot_less (b := l1) h0
  rw [e2, b2] at s1
  rw [d2, b2] at s2
  exact ⟨te, tb, _, _, td, e1, b1, rfl, rfl, d1, s1, s2, e3, b3, tot_bound (nl_is l0).1 (nl_nn h0), tot_bound (nl_is l1).1 (nl_nn h1), d3⟩
set_option maxHeartbeats 4000000 in
theorem sets_walk (A0 : Option Addr) (len0 cap0 : Nat) (A1 : Option Addr) (len1 cap1 : Nat) (x : Int) (w : World) (l0 l1 : List R) (hl0 : l0.length = len0) (hr0 : Rd w w.heap.size A0 l0) (hI0 : IR l0) (hno0 : A0 = none → len0 = 0 ∧ cap0 = 0) (hm0 : len0 ≤ 9223372036854775807) (hl1 : l1.length = len1) (hr1 : Rd w w.heap.size A1 l1) (hI1 : IR l1) (hno1 : A1 = none → len1 = 0 ∧ cap1 = 0) (hm1 : len1 ≤ 9223372036854775807) :
    Calls Try.prog 9 #[.slice A0 len0 cap0, .slice A1 len1 cap1, .int .i64 x] w fun e w' => e = .returned (.bool true) ∧ Below w.heap.size w w' := by
  have L0 := Lib.hid hl0; have R0_0 := Lib.hid hr0; have I0 := Lib.hid hI0; have N0 := Lib.hid hno0
  clear hl0 hr0 hI0 hno0
  have L1 := Lib.hid hl1; have R1_0 := Lib.hid hr1; have I1 := Lib.hid hI1; have N1 := Lib.hid hno1
  clear hl1 hr1 hI1 hno1
  by_cases h60 : len0 ≤ 60 ∧ len1 ≤ 60
  · obtain ⟨h60, h61⟩ := h60
    obtain ⟨te, tb, ta, tc, td, TE', TB', TA', TC', TD', S1, S2, ⟨te0, te1⟩, ⟨tb0, tb1⟩, ⟨ta0, ta1⟩, ⟨tc0, tc1⟩, td0, td1⟩ := tot_all l0 l1 I0.out I1.out
    have TE := Lib.hid TE'; have TB := Lib.hid TB'; have TA := Lib.hid TA'; have TC := Lib.hid TC'; have TD := Lib.hid TD'
    have S3 : (te + tb == ta + tc) = true := by simpa using S1
    have S4 : (td + tb == ta) = true := by simpa using S2
    clear TE' TB' TA' TC' TD'
    have hE := has_either l0 l1 x; have hB := has_both l0 l1 x; have hS := has_less l0 l1 x
    cases hX : hasB l0 x <;> cases hY : hasB l1 x <;> rw [hX, hY] at hE hB hS <;> simp only [Bool.or_true, Bool.or_false, Bool.and_true, Bool.and_false, Bool.not_true, Bool.not_false, Bool.or_self, Bool.and_self] at hE hB hS
    all_goals
      have HX := Lib.hid hX; have HY := Lib.hid hY; have HE := Lib.hid hE; have HB := Lib.hid hB; have HS := Lib.hid hS
      clear hX hY hE hB hS
      go_enter Try.func9, Try.ntmps9
      go_wp2_with fail
      refine (awake_any _).mono ?_
      rintro e w1 ⟨rfl, b1⟩
      have R0_1 := Lib.hid (R0_0.out.up b1)
      have R1_1 := Lib.hid (R1_0.out.up b1)
      have B1 := Lib.hid b1
      clear b1 R0_0 R1_0
      go_wp2_with fail
      refine (long_no A0 len0 cap0 A1 len1 cap1 _ (by omega) (by omega)).mono ?_
      rintro e wl ⟨rfl, rfl⟩
      go_wp2_with fail
      refine (Either_any A0 len0 cap0 A1 len1 cap1 _ (l0) (l1) L0.out R0_1.out I0.out N0.out L1.out R1_1.out I1.out N1.out (by omega) (by omega)).mono ?_
      rintro e w2 ⟨⟨A10, n10, c10, rfl, o10⟩, b2⟩
      have L10 := Lib.hid o10.1
      have R10_2 := Lib.hid o10.rd
      have N10 := Lib.hid o10.none
      have h10 : n10 ≤ 120 := by rw [← L10.out]; exact Nat.le_trans (either_bd (by rw [L0.out]; exact h60) (by rw [L1.out]; exact h61)) (by omega)
      have R0_2 := Lib.hid (R0_1.out.up b2)
      have R1_2 := Lib.hid (R1_1.out.up b2)
      have B2 := Lib.hid (below_up B1.out b2)
      clear b2 R0_1 R1_1 B1 o10
      go_wp2_with fail
      refine (Both_any A0 len0 cap0 A1 len1 cap1 _ (l0) (l1) L0.out R0_2.out I0.out L1.out R1_2.out I1.out (by omega) (by omega)).mono ?_
      rintro e w3 ⟨⟨A11, n11, c11, rfl, o11⟩, b3⟩
      have L11 := Lib.hid o11.1
      have R11_3 := Lib.hid o11.rd
      have N11 := Lib.hid o11.none
      have h11 : n11 ≤ 120 := by rw [← L11.out]; exact Nat.le_trans (both_bd (by rw [L0.out]; exact h60) (by rw [L1.out]; exact h61)) (by omega)
      have R0_3 := Lib.hid (R0_2.out.up b3)
      have R1_3 := Lib.hid (R1_2.out.up b3)
      have R10_3 := Lib.hid (R10_2.out.up b3)
      have B3 := Lib.hid (below_up B2.out b3)
      clear b3 R0_2 R1_2 R10_2 B2 o11
      go_wp2_with fail
      refine (Less_any A0 len0 cap0 A1 len1 cap1 _ (l0) (l1) L0.out R0_3.out I0.out L1.out R1_3.out I1.out (by omega) (by omega)).mono ?_
      rintro e w4 ⟨⟨A12, n12, c12, rfl, o12⟩, b4⟩
      have L12 := Lib.hid o12.1
      have R12_4 := Lib.hid o12.rd
      have N12 := Lib.hid o12.none
      have h12 : n12 ≤ 3660 := by rw [← L12.out]; exact Nat.le_trans (less_bd (by rw [L0.out]; exact h60) (by rw [L1.out]; exact h61)) (by omega)
      have R0_4 := Lib.hid (R0_3.out.up b4)
      have R1_4 := Lib.hid (R1_3.out.up b4)
      have R10_4 := Lib.hid (R10_3.out.up b4)
      have R11_4 := Lib.hid (R11_3.out.up b4)
      have B4 := Lib.hid (below_up B3.out b4)
      clear b4 R0_3 R1_3 R10_3 R11_3 B3 o12
      go_wp2_with fail
      refine (Has_any A0 len0 cap0 x _ (l0) L0.out R0_4.out (by omega)).mono ?_
      rintro e w5 ⟨rfl, b5⟩
      rw [HX.out]
      have R0_5 := Lib.hid (R0_4.out.up b5)
      have R1_5 := Lib.hid (R1_4.out.up b5)
      have R10_5 := Lib.hid (R10_4.out.up b5)
      have R11_5 := Lib.hid (R11_4.out.up b5)
      have R12_5 := Lib.hid (R12_4.out.up b5)
      have B5 := Lib.hid (below_up B4.out b5)
      clear b5 R0_4 R1_4 R10_4 R11_4 R12_4 B4
      go_wp2_with fail
      refine (Has_any A1 len1 cap1 x _ (l1) L1.out R1_5.out (by omega)).mono ?_
      rintro e w6 ⟨rfl, b6⟩
      rw [HY.out]
      have R0_6 := Lib.hid (R0_5.out.up b6)
      have R1_6 := Lib.hid (R1_5.out.up b6)
      have R10_6 := Lib.hid (R10_5.out.up b6)
      have R11_6 := Lib.hid (R11_5.out.up b6)
      have R12_6 := Lib.hid (R12_5.out.up b6)
      have B6 := Lib.hid (below_up B5.out b6)
      clear b6 R0_5 R1_5 R10_5 R11_5 R12_5 B5
      go_wp2_with fail
      refine (Has_any A10 n10 c10 x _ (eitherR (l0) (l1)) L10.out R10_6.out (by omega)).mono ?_
      rintro e w7 ⟨rfl, b7⟩
      rw [HE.out]
      have R0_7 := Lib.hid (R0_6.out.up b7)
      have R1_7 := Lib.hid (R1_6.out.up b7)
      have R10_7 := Lib.hid (R10_6.out.up b7)
      have R11_7 := Lib.hid (R11_6.out.up b7)
      have R12_7 := Lib.hid (R12_6.out.up b7)
      have B7 := Lib.hid (below_up B6.out b7)
      clear b7 R0_6 R1_6 R10_6 R11_6 R12_6 B6
      go_wp2_with fail
      refine (Has_any A11 n11 c11 x _ (bothR (l0) (l1)) L11.out R11_7.out (by omega)).mono ?_
      rintro e w8 ⟨rfl, b8⟩
      rw [HB.out]
      have R0_8 := Lib.hid (R0_7.out.up b8)
      have R1_8 := Lib.hid (R1_7.out.up b8)
      have R10_8 := Lib.hid (R10_7.out.up b8)
      have R11_8 := Lib.hid (R11_7.out.up b8)
      have R12_8 := Lib.hid (R12_7.out.up b8)
      have B8 := Lib.hid (below_up B7.out b8)
      clear b8 R0_7 R1_7 R10_7 R11_7 R12_7 B7
      go_wp2_with fail
      refine (Has_any A12 n12 c12 x _ (lessR (l0) (l1)) L12.out R12_8.out (by omega)).mono ?_
      rintro e w9 ⟨rfl, b9⟩
      rw [HS.out]
      have R0_9 := Lib.hid (R0_8.out.up b9)
      have R1_9 := Lib.hid (R1_8.out.up b9)
      have R10_9 := Lib.hid (R10_8.out.up b9)
      have R11_9 := Lib.hid (R11_8.out.up b9)
      have R12_9 := Lib.hid (R12_8.out.up b9)
      have B9 := Lib.hid (below_up B8.out b9)
      clear b9 R0_8 R1_8 R10_8 R11_8 R12_8 B8
      go_wp2_with fail
      refine (Right_any A10 n10 c10 _ (eitherR (l0) (l1)) L10.out R10_9.out (by omega)).mono ?_
      rintro e w10 ⟨rfl, b10⟩
      rw [rightB_of (eitherR_is l0 l1).1]
      have R0_10 := Lib.hid (R0_9.out.up b10)
      have R1_10 := Lib.hid (R1_9.out.up b10)
      have R10_10 := Lib.hid (R10_9.out.up b10)
      have R11_10 := Lib.hid (R11_9.out.up b10)
      have R12_10 := Lib.hid (R12_9.out.up b10)
      have B10 := Lib.hid (below_up B9.out b10)
      clear b10 R0_9 R1_9 R10_9 R11_9 R12_9 B9
      go_wp2_with fail
      refine (Right_any A11 n11 c11 _ (bothR (l0) (l1)) L11.out R11_10.out (by omega)).mono ?_
      rintro e w11 ⟨rfl, b11⟩
      rw [rightB_of (bothR_is l0 l1).1]
      have R0_11 := Lib.hid (R0_10.out.up b11)
      have R1_11 := Lib.hid (R1_10.out.up b11)
      have R10_11 := Lib.hid (R10_10.out.up b11)
      have R11_11 := Lib.hid (R11_10.out.up b11)
      have R12_11 := Lib.hid (R12_10.out.up b11)
      have B11 := Lib.hid (below_up B10.out b11)
      clear b11 R0_10 R1_10 R10_10 R11_10 R12_10 B10
      go_wp2_with fail
      refine (Right_any A12 n12 c12 _ (lessR (l0) (l1)) L12.out R12_11.out (by omega)).mono ?_
      rintro e w12 ⟨rfl, b12⟩
      rw [rightB_of (lessR_is l0 l1).1]
      have R0_12 := Lib.hid (R0_11.out.up b12)
      have R1_12 := Lib.hid (R1_11.out.up b12)
      have R10_12 := Lib.hid (R10_11.out.up b12)
      have R11_12 := Lib.hid (R11_11.out.up b12)
      have R12_12 := Lib.hid (R12_11.out.up b12)
      have B12 := Lib.hid (below_up B11.out b12)
      clear b12 R0_11 R1_11 R10_11 R11_11 R12_11 B11
      go_wp2_with fail
      refine (Total_any A10 n10 c10 _ (eitherR (l0) (l1)) L10.out R10_12.out (eitherR_nn I0.out I1.out).ir (by omega)).mono ?_
      rintro e w13 ⟨rfl, b13⟩
      rw [TE.out]
      have R0_13 := Lib.hid (R0_12.out.up b13)
      have R1_13 := Lib.hid (R1_12.out.up b13)
      have R10_13 := Lib.hid (R10_12.out.up b13)
      have R11_13 := Lib.hid (R11_12.out.up b13)
      have R12_13 := Lib.hid (R12_12.out.up b13)
      have B13 := Lib.hid (below_up B12.out b13)
      clear b13 R0_12 R1_12 R10_12 R11_12 R12_12 B12
      go_wp2_with fail
      refine (Total_any A11 n11 c11 _ (bothR (l0) (l1)) L11.out R11_13.out (bothR_nn (b := l1) I0.out).ir (by omega)).mono ?_
      rintro e w14 ⟨rfl, b14⟩
      rw [TB.out]
      have R0_14 := Lib.hid (R0_13.out.up b14)
      have R1_14 := Lib.hid (R1_13.out.up b14)
      have R10_14 := Lib.hid (R10_13.out.up b14)
      have R11_14 := Lib.hid (R11_13.out.up b14)
      have R12_14 := Lib.hid (R12_13.out.up b14)
      have B14 := Lib.hid (below_up B13.out b14)
      clear b14 R0_13 R1_13 R10_13 R11_13 R12_13 B13
      go_wp2_with fail
      refine (Total_any A0 len0 cap0 _ (l0) L0.out R0_14.out I0.out (by omega)).mono ?_
      rintro e w15 ⟨rfl, b15⟩
      rw [TA.out]
      have R0_15 := Lib.hid (R0_14.out.up b15)
      have R1_15 := Lib.hid (R1_14.out.up b15)
      have R10_15 := Lib.hid (R10_14.out.up b15)
      have R11_15 := Lib.hid (R11_14.out.up b15)
      have R12_15 := Lib.hid (R12_14.out.up b15)
      have B15 := Lib.hid (below_up B14.out b15)
      clear b15 R0_14 R1_14 R10_14 R11_14 R12_14 B14
      go_wp2_with fail
      refine (Total_any A1 len1 cap1 _ (l1) L1.out R1_15.out I1.out (by omega)).mono ?_
      rintro e w16 ⟨rfl, b16⟩
      rw [TC.out]
      have R0_16 := Lib.hid (R0_15.out.up b16)
      have R1_16 := Lib.hid (R1_15.out.up b16)
      have R10_16 := Lib.hid (R10_15.out.up b16)
      have R11_16 := Lib.hid (R11_15.out.up b16)
      have R12_16 := Lib.hid (R12_15.out.up b16)
      have B16 := Lib.hid (below_up B15.out b16)
      clear b16 R0_15 R1_15 R10_15 R11_15 R12_15 B15
      go_wp2_with fail
      refine (Total_any A12 n12 c12 _ (lessR (l0) (l1)) L12.out R12_16.out (lessR_nn (b := l1) I0.out).ir (by omega)).mono ?_
      rintro e w17 ⟨rfl, b17⟩
      rw [TD.out]
      have R0_17 := Lib.hid (R0_16.out.up b17)
      have R1_17 := Lib.hid (R1_16.out.up b17)
      have R10_17 := Lib.hid (R10_16.out.up b17)
      have R11_17 := Lib.hid (R11_16.out.up b17)
      have R12_17 := Lib.hid (R12_16.out.up b17)
      have B17 := Lib.hid (below_up B16.out b17)
      clear b17 R0_16 R1_16 R10_16 R11_16 R12_16 B16
      go_wp2_with fail
      refine (Total_any A11 n11 c11 _ (bothR (l0) (l1)) L11.out R11_17.out (bothR_nn (b := l1) I0.out).ir (by omega)).mono ?_
      rintro e w18 ⟨rfl, b18⟩
      rw [TB.out]
      have R0_18 := Lib.hid (R0_17.out.up b18)
      have R1_18 := Lib.hid (R1_17.out.up b18)
      have R10_18 := Lib.hid (R10_17.out.up b18)
      have R11_18 := Lib.hid (R11_17.out.up b18)
      have R12_18 := Lib.hid (R12_17.out.up b18)
      have B18 := Lib.hid (below_up B17.out b18)
      clear b18 R0_17 R1_17 R10_17 R11_17 R12_17 B17
      go_wp2_with fail
      refine (Total_any A0 len0 cap0 _ (l0) L0.out R0_18.out I0.out (by omega)).mono ?_
      rintro e w19 ⟨rfl, b19⟩
      rw [TA.out]
      have R0_19 := Lib.hid (R0_18.out.up b19)
      have R1_19 := Lib.hid (R1_18.out.up b19)
      have R10_19 := Lib.hid (R10_18.out.up b19)
      have R11_19 := Lib.hid (R11_18.out.up b19)
      have R12_19 := Lib.hid (R12_18.out.up b19)
      have B19 := Lib.hid (below_up B18.out b19)
      clear b19 R0_18 R1_18 R10_18 R11_18 R12_18 B18
      go_wp2_with fail
      refine (Either_any A12 n12 c12 A11 n11 c11 _ (lessR (l0) (l1)) (bothR (l0) (l1)) L12.out R12_19.out (lessR_nn (b := l1) I0.out).ir N12.out L11.out R11_19.out (bothR_nn (b := l1) I0.out).ir N11.out (by omega) (by omega)).mono ?_
      rintro e w20 ⟨⟨A13, n13, c13, rfl, o13⟩, b20⟩
      have L13 := Lib.hid o13.1
      have R13_20 := Lib.hid o13.rd
      have N13 := Lib.hid o13.none
      have h13 : n13 ≤ 3780 := by rw [← L13.out]; exact Nat.le_trans (either_bd (by rw [L12.out]; exact h12) (by rw [L11.out]; exact h11)) (by omega)
      have R0_20 := Lib.hid (R0_19.out.up b20)
      have R1_20 := Lib.hid (R1_19.out.up b20)
      have R10_20 := Lib.hid (R10_19.out.up b20)
      have R11_20 := Lib.hid (R11_19.out.up b20)
      have R12_20 := Lib.hid (R12_19.out.up b20)
      have B20 := Lib.hid (below_up B19.out b20)
      clear b20 R0_19 R1_19 R10_19 R11_19 R12_19 B19 o13
      go_wp2_with fail
      refine (Normal_any A0 len0 cap0 _ (l0) L0.out R0_20.out I0.out (by omega)).mono ?_
      rintro e w21 ⟨⟨A14, n14, c14, rfl, o14⟩, b21⟩
      have L14 := Lib.hid o14.1
      have R14_21 := Lib.hid o14.rd
      have N14 := Lib.hid o14.none
      have h14 : n14 ≤ 60 := by rw [← L14.out]; exact Nat.le_trans (nl_bd (by rw [L0.out]; exact h60)) (by omega)
      have R0_21 := Lib.hid (R0_20.out.up b21)
      have R1_21 := Lib.hid (R1_20.out.up b21)
      have R10_21 := Lib.hid (R10_20.out.up b21)
      have R11_21 := Lib.hid (R11_20.out.up b21)
      have R12_21 := Lib.hid (R12_20.out.up b21)
      have R13_21 := Lib.hid (R13_20.out.up b21)
      have B21 := Lib.hid (below_up B20.out b21)
      clear b21 R0_20 R1_20 R10_20 R11_20 R12_20 R13_20 B20 o14
      go_wp2_with fail
      refine (Same_any A13 n13 c13 A14 n14 c14 _ (eitherR (lessR (l0) (l1)) (bothR (l0) (l1))) (nl (l0)) L13.out R13_21.out (by omega) L14.out R14_21.out (by omega)).mono ?_
      rintro e w22 ⟨rfl, b22⟩
      rw [show decide ((eitherR (lessR (l0) (l1)) (bothR (l0) (l1))) = (nl (l0))) = true from decide_eq_true (sets_join l0 l1).1]
      have R0_22 := Lib.hid (R0_21.out.up b22)
      have R1_22 := Lib.hid (R1_21.out.up b22)
      have R10_22 := Lib.hid (R10_21.out.up b22)
      have R11_22 := Lib.hid (R11_21.out.up b22)
      have R12_22 := Lib.hid (R12_21.out.up b22)
      have R13_22 := Lib.hid (R13_21.out.up b22)
      have R14_22 := Lib.hid (R14_21.out.up b22)
      have B22 := Lib.hid (below_up B21.out b22)
      clear b22 R0_21 R1_21 R10_21 R11_21 R12_21 R13_21 R14_21 B21
      go_wp2_with fail
      clear R13_22
      clear R14_22
      refine (Both_any A12 n12 c12 A1 len1 cap1 _ (lessR (l0) (l1)) (l1) L12.out R12_22.out (lessR_nn (b := l1) I0.out).ir L1.out R1_22.out I1.out (by omega) (by omega)).mono ?_
      rintro e w23 ⟨⟨AZ, nZ, cZ, rfl, oZ⟩, b23⟩
      obtain rfl : nZ = 0 := by have := oZ.1; rw [(sets_join l0 l1).2] at this; exact this.symm
      have R0_23 := Lib.hid (R0_22.out.up b23)
      have R1_23 := Lib.hid (R1_22.out.up b23)
      have R10_23 := Lib.hid (R10_22.out.up b23)
      have R11_23 := Lib.hid (R11_22.out.up b23)
      have R12_23 := Lib.hid (R12_22.out.up b23)
      have B23 := Lib.hid (below_up B22.out b23)
      clear b23 R0_22 R1_22 R10_22 R11_22 R12_22 B22 oZ
      go_wp2_with fail
      go_ret
      exact ⟨rfl, B23.out⟩
  · have hlong : 60 < len0 ∨ 60 < len1 := by omega
    go_enter Try.func9, Try.ntmps9
    go_wp2_with fail
    refine (awake_any _).mono ?_
    rintro e w1 ⟨rfl, b1⟩
    have R0_1 := Lib.hid (R0_0.out.up b1)
    have R1_1 := Lib.hid (R1_0.out.up b1)
    have B1 := Lib.hid b1
    clear b1 R0_0 R1_0
    go_wp2_with fail
    refine (long_yes A0 len0 cap0 A1 len1 cap1 _ (by omega)).mono ?_
    rintro e wl ⟨rfl, rfl⟩
    go_wp2_with fail
    refine (awake_any _).mono ?_
    rintro e w2 ⟨rfl, b2⟩
    have R0_2 := Lib.hid (R0_1.out.up b2)
    have R1_2 := Lib.hid (R1_1.out.up b2)
    have B2 := Lib.hid (below_up B1.out b2)
    clear b2 R0_1 R1_1 B1
    go_wp2_with fail
    go_ret
    exact ⟨rfl, B2.out⟩
end Go.Proofs.Ytmfokaicfcnhgaa
