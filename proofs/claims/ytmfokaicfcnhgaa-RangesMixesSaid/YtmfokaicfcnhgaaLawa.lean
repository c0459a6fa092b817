/-
  What RangesNormal, RangesMixes and RangesTurned answer: true.
-/
import Derived.Test.YtmfokaicfcnhgaaWalkj
namespace Go.Proofs.Ytmfokaicfcnhgaa
open Go.RowKit
theorem long_yes (A : Option Addr) (len cap : Nat) (A2 : Option Addr) (len2 cap2 : Nat) (w : World) (h : 60 < len ∨ 60 < len2) :
    Calls Try.prog 12 #[.slice A len cap, .slice A2 len2 cap2] w fun e w' => e = .returned (.bool true) ∧ w = w' :=
  (long_any A len cap A2 len2 cap2 w).mono fun _ _ ⟨h1, h2⟩ => ⟨by rw [h1]; refine ret_bool ?_; simp; omega, h2⟩
theorem long_no (A : Option Addr) (len cap : Nat) (A2 : Option Addr) (len2 cap2 : Nat) (w : World) (h : len ≤ 60) (h2 : len2 ≤ 60) :
    Calls Try.prog 12 #[.slice A len cap, .slice A2 len2 cap2] w fun e w' => e = .returned (.bool false) ∧ w = w' :=
  (long_any A len cap A2 len2 cap2 w).mono fun _ _ ⟨h1, h2⟩ => ⟨by rw [h1]; refine ret_bool ?_; simp; omega, h2⟩
theorem ir_nil : IR [] := fun r hr => by cases hr
theorem nl_bd {a : List R} {x : Nat} (h : a.length ≤ x) : (nl a).length ≤ x := Nat.le_trans (nl_len a) h
theorem either_bd {a b : List R} {x y : Nat} (h : a.length ≤ x) (h' : b.length ≤ y) : (eitherR a b).length ≤ x + y := Nat.le_trans (eitherR_len a b) (Nat.add_le_add h h')
theorem both_bd {a b : List R} {x y : Nat} (h : a.length ≤ x) (h' : b.length ≤ y) : (bothR a b).length ≤ x + y := Nat.le_trans (bothR_len a b) (Nat.add_le_add h h')
theorem less_bd {a b : List R} {x y : Nat} (h : a.length ≤ x) (h' : b.length ≤ y) : (lessR a b).length ≤ x * (y + 1) := by
  have h1 := lessL_len (nl a) (nl b)
  exact Nat.le_trans h1 (Nat.mul_le_mul (Nat.le_trans (nl_len a) h) (Nat.add_le_add (Nat.le_trans (nl_len b) h') (Nat.le_refl 1)))
set_option maxHeartbeats 1600000 in
theorem normal_walk (A0 : Option Addr) (len0 cap0 : Nat) (w : World) (l0 : List R) (hl0 : l0.length = len0) (hr0 : Rd w w.heap.size A0 l0) (hI0 : IR l0) (hno0 : A0 = none → len0 = 0 ∧ cap0 = 0) (hm0 : len0 ≤ 9223372036854775807) :
    Calls Try.prog 3 #[.slice A0 len0 cap0] w fun e w' => e = .returned (.bool true) ∧ Below w.heap.size w w' := by
  have L0 := Lib.hid hl0; have R0_0 := Lib.hid hr0; have I0 := Lib.hid hI0; have N0 := Lib.hid hno0
  clear hl0 hr0 hI0 hno0
  by_cases h60 : len0 ≤ 60
  · have h60 := h60
    go_enter Try.func3, Try.ntmps3
    go_wp2_with fail
    refine (awake_any _).mono ?_
    rintro e w1 ⟨rfl, b1⟩
    have R0_1 := Lib.hid (R0_0.out.up b1)
    have B1 := Lib.hid b1
    clear b1 R0_0
    go_wp2_with fail
    refine (long_no A0 len0 cap0 none 0 0 _ (by omega) (by omega)).mono ?_
    rintro e wl ⟨rfl, rfl⟩
    go_wp2_with fail
    refine (Lent_any A0 len0 cap0 _ (l0) L0.out R0_1.out (by omega)).mono ?_
    rintro e w2 ⟨⟨g10, c10, rfl, o10⟩, b2⟩
    have hc10 := o10.cap
    unfold maxLen at hc10
    have R10_2 := Lib.hid o10.rd.left
    have R10f_2 := Lib.hid o10.rd
    have R0_2 := Lib.hid (R0_1.out.up b2)
    have B2 := Lib.hid (below_up B1.out b2)
    clear b2 R0_1 B1 o10
    go_wp2_with fail
    refine (Normal_any (some ⟨g10, 0, none⟩) len0 c10 _ (l0) L0.out R10_2.out I0.out (by omega)).mono ?_
    rintro e w3 ⟨⟨A11, n11, c11, rfl, o11⟩, b3⟩
    have L11 := Lib.hid o11.1
    have R11_3 := Lib.hid o11.rd
    have N11 := Lib.hid o11.none
    have h11 : n11 ≤ 60 := by rw [← L11.out]; exact Nat.le_trans (nl_bd (by rw [L0.out]; exact h60)) (by omega)
    have R0_3 := Lib.hid (R0_2.out.up b3)
    have R10_3 := Lib.hid (R10_2.out.up b3)
    have R10f_3 := Lib.hid (R10f_2.out.up b3)
    have B3 := Lib.hid (below_up B2.out b3)
    clear b3 R0_2 R10_2 R10f_2 B2 o11
    go_wp2_with fail
    refine (Mix_any A0 len0 cap0 none 0 0 0 (.inl rfl) _ (l0) [] L0.out R0_3.out I0.out rfl (Rd.nil _ _ _) ir_nil (by omega) (by omega)).mono ?_
    rintro e w4 ⟨⟨A12, n12, c12, rfl, o12⟩, b4⟩
    rw [mix_nl] at o12
    have L12 := Lib.hid o12.1
    have R12_4 := Lib.hid o12.rd
    have N12 := Lib.hid o12.none
    have h12 : n12 ≤ 60 := by rw [← L12.out]; exact Nat.le_trans (nl_bd (by rw [L0.out]; exact h60)) (by omega)
    have R0_4 := Lib.hid (R0_3.out.up b4)
    have R10_4 := Lib.hid (R10_3.out.up b4)
    have R10f_4 := Lib.hid (R10f_3.out.up b4)
    have R11_4 := Lib.hid (R11_3.out.up b4)
    have B4 := Lib.hid (below_up B3.out b4)
    clear b4 R0_3 R10_3 R10f_3 R11_3 B3 o12
    go_wp2_with fail
    refine (Same_any A11 n11 c11 A12 n12 c12 _ (nl (l0)) (nl (l0)) L11.out R11_4.out (by omega) L12.out R12_4.out (by omega)).mono ?_
    rintro e w5 ⟨rfl, b5⟩
    rw [show decide ((nl (l0)) = (nl (l0))) = true from decide_eq_true rfl]
    have R0_5 := Lib.hid (R0_4.out.up b5)
    have R10_5 := Lib.hid (R10_4.out.up b5)
    have R10f_5 := Lib.hid (R10f_4.out.up b5)
    have R11_5 := Lib.hid (R11_4.out.up b5)
    have R12_5 := Lib.hid (R12_4.out.up b5)
    have B5 := Lib.hid (below_up B4.out b5)
    clear b5 R0_4 R10_4 R10f_4 R11_4 R12_4 B4
    go_wp2_with fail
    refine (Right_any A11 n11 c11 _ (nl (l0)) L11.out R11_5.out (by omega)).mono ?_
    rintro e w6 ⟨rfl, b6⟩
    rw [rightB_of (nl_is l0).1]
    have R0_6 := Lib.hid (R0_5.out.up b6)
    have R10_6 := Lib.hid (R10_5.out.up b6)
    have R10f_6 := Lib.hid (R10f_5.out.up b6)
    have R11_6 := Lib.hid (R11_5.out.up b6)
    have R12_6 := Lib.hid (R12_5.out.up b6)
    have B6 := Lib.hid (below_up B5.out b6)
    clear b6 R0_5 R10_5 R10f_5 R11_5 R12_5 B5
    go_wp2_with fail
    obtain ⟨Rb, hRb⟩ : ∃ b, rightB l0 = b := ⟨_, rfl⟩
    refine (Right_any (some ⟨g10, 0, none⟩) len0 c10 _ (l0) L0.out R10_6.out (by omega)).mono ?_
    rintro e w7 ⟨rfl, b7⟩
    rw [hRb]
    have R0_7 := Lib.hid (R0_6.out.up b7)
    have R10_7 := Lib.hid (R10_6.out.up b7)
    have R10f_7 := Lib.hid (R10f_6.out.up b7)
    have R11_7 := Lib.hid (R11_6.out.up b7)
    have R12_7 := Lib.hid (R12_6.out.up b7)
    have B7 := Lib.hid (below_up B6.out b7)
    clear b7 R0_6 R10_6 R10f_6 R11_6 R12_6 B6
    go_wp2_with fail
    refine (RefRight_any A0 len0 cap0 _ l0 L0.out R0_7.out I0.out (by omega)).mono ?_
    rintro e w8 ⟨rfl, b8⟩
    rw [hRb]
    clear hRb
    have R0_8 := Lib.hid (R0_7.out.up b8)
    have R10_8 := Lib.hid (R10_7.out.up b8)
    have R10f_8 := Lib.hid (R10f_7.out.up b8)
    have R11_8 := Lib.hid (R11_7.out.up b8)
    have R12_8 := Lib.hid (R12_7.out.up b8)
    have B8 := Lib.hid (below_up B7.out b8)
    clear b8 R0_7 R10_7 R10f_7 R11_7 R12_7 B7
    go_wp2_with fail
    refine (Kept_any (some ⟨g10, 0, none⟩) len0 c10 A0 cap0 _ (l0) L0.out R10f_8.out (by omega) (by omega) R0_8.out).mono ?_
    rintro e w9 ⟨rfl, b9⟩
    have R0_9 := Lib.hid (R0_8.out.up b9)
    have R10_9 := Lib.hid (R10_8.out.up b9)
    have R10f_9 := Lib.hid (R10f_8.out.up b9)
    have R11_9 := Lib.hid (R11_8.out.up b9)
    have R12_9 := Lib.hid (R12_8.out.up b9)
    have B9 := Lib.hid (below_up B8.out b9)
    clear b9 R0_8 R10_8 R10f_8 R11_8 R12_8 B8
    go_wp2_with fail
    go_ret
    exact ⟨rfl, B9.out⟩
  · have hlong : 60 < len0 := by omega
    go_enter Try.func3, Try.ntmps3
    go_wp2_with fail
    refine (awake_any _).mono ?_
    rintro e w1 ⟨rfl, b1⟩
    have R0_1 := Lib.hid (R0_0.out.up b1)
    have B1 := Lib.hid b1
    clear b1 R0_0
    go_wp2_with fail
    refine (long_yes A0 len0 cap0 none 0 0 _ (.inl (by omega))).mono ?_
    rintro e wl ⟨rfl, rfl⟩
    go_wp2_with fail
    refine (awake_any _).mono ?_
    rintro e w2 ⟨rfl, b2⟩
    have R0_2 := Lib.hid (R0_1.out.up b2)
    have B2 := Lib.hid (below_up B1.out b2)
    clear b2 R0_1 B1
    go_wp2_with fail
    go_ret
    exact ⟨rfl, B2.out⟩
set_option maxHeartbeats 1600000 in
theorem mixes_walk (A0 : Option Addr) (len0 cap0 : Nat) (A1 : Option Addr) (len1 cap1 : Nat) (w : World) (l0 l1 : List R) (hl0 : l0.length = len0) (hr0 : Rd w w.heap.size A0 l0) (hI0 : IR l0) (hno0 : A0 = none → len0 = 0 ∧ cap0 = 0) (hm0 : len0 ≤ 9223372036854775807) (hl1 : l1.length = len1) (hr1 : Rd w w.heap.size A1 l1) (hI1 : IR l1) (hno1 : A1 = none → len1 = 0 ∧ cap1 = 0) (hm1 : len1 ≤ 9223372036854775807) :
    Calls Try.prog 6 #[.slice A0 len0 cap0, .slice A1 len1 cap1] w fun e w' => e = .returned (.bool true) ∧ Below w.heap.size w w' := by
  have L0 := Lib.hid hl0; have R0_0 := Lib.hid hr0; have I0 := Lib.hid hI0; have N0 := Lib.hid hno0
  clear hl0 hr0 hI0 hno0
  have L1 := Lib.hid hl1; have R1_0 := Lib.hid hr1; have I1 := Lib.hid hI1; have N1 := Lib.hid hno1
  clear hl1 hr1 hI1 hno1
  by_cases h60 : len0 ≤ 60 ∧ len1 ≤ 60
  · obtain ⟨h60, h61⟩ := h60
    go_enter Try.func6, Try.ntmps6
    go_wp2_with fail
    refine (awake_any _).mono ?_
    rintro e w1 ⟨rfl, b1⟩
    have R0_1 := Lib.hid (R0_0.out.up b1)
    have R1_1 := Lib.hid (R1_0.out.up b1)
    have B1 := Lib.hid b1
    clear b1 R0_0 R1_0
    go_wp2_with fail
    refine (long_no A0 len0 cap0 A1 len1 cap1 _ (by omega) (by omega)).mono ?_
    rintro e wl ⟨rfl, rfl⟩
    go_wp2_with fail
    refine (Lent_any A0 len0 cap0 _ (l0) L0.out R0_1.out (by omega)).mono ?_
    rintro e w2 ⟨⟨g10, c10, rfl, o10⟩, b2⟩
    have hc10 := o10.cap
    unfold maxLen at hc10
    have R10_2 := Lib.hid o10.rd.left
    have R10f_2 := Lib.hid o10.rd
    have R0_2 := Lib.hid (R0_1.out.up b2)
    have R1_2 := Lib.hid (R1_1.out.up b2)
    have B2 := Lib.hid (below_up B1.out b2)
    clear b2 R0_1 R1_1 B1 o10
    go_wp2_with fail
    refine (Lent_any A1 len1 cap1 _ (l1) L1.out R1_2.out (by omega)).mono ?_
    rintro e w3 ⟨⟨g11, c11, rfl, o11⟩, b3⟩
    have hc11 := o11.cap
    unfold maxLen at hc11
    have R11_3 := Lib.hid o11.rd.left
    have R11f_3 := Lib.hid o11.rd
    have R0_3 := Lib.hid (R0_2.out.up b3)
    have R1_3 := Lib.hid (R1_2.out.up b3)
    have R10_3 := Lib.hid (R10_2.out.up b3)
    have R10f_3 := Lib.hid (R10f_2.out.up b3)
    have B3 := Lib.hid (below_up B2.out b3)
    clear b3 R0_2 R1_2 R10_2 R10f_2 B2 o11
    go_wp2_with fail
    refine (Either_any (some ⟨g10, 0, none⟩) len0 c10 (some ⟨g11, 0, none⟩) len1 c11 _ (l0) (l1) L0.out R10_3.out I0.out (fun h => by cases h) L1.out R11_3.out I1.out (fun h => by cases h) (by omega) (by omega)).mono ?_
    rintro e w4 ⟨⟨A12, n12, c12, rfl, o12⟩, b4⟩
    have L12 := Lib.hid o12.1
    have R12_4 := Lib.hid o12.rd
    have N12 := Lib.hid o12.none
    have h12 : n12 ≤ 120 := by rw [← L12.out]; exact Nat.le_trans (either_bd (by rw [L0.out]; exact h60) (by rw [L1.out]; exact h61)) (by omega)
    have R0_4 := Lib.hid (R0_3.out.up b4)
    have R1_4 := Lib.hid (R1_3.out.up b4)
    have R10_4 := Lib.hid (R10_3.out.up b4)
    have R10f_4 := Lib.hid (R10f_3.out.up b4)
    have R11_4 := Lib.hid (R11_3.out.up b4)
    have R11f_4 := Lib.hid (R11f_3.out.up b4)
    have B4 := Lib.hid (below_up B3.out b4)
    clear b4 R0_3 R1_3 R10_3 R10f_3 R11_3 R11f_3 B3 o12
    go_wp2_with fail
    refine (Mix_any A0 len0 cap0 A1 len1 cap1 0 (.inl rfl) _ (l0) (l1) L0.out R0_4.out I0.out L1.out R1_4.out I1.out (by omega) (by omega)).mono ?_
    rintro e w5 ⟨⟨A13, n13, c13, rfl, o13⟩, b5⟩
    rw [mix_either] at o13
    have L13 := Lib.hid o13.1
    have R13_5 := Lib.hid o13.rd
    have N13 := Lib.hid o13.none
    have h13 : n13 ≤ 120 := by rw [← L13.out]; exact Nat.le_trans (either_bd (by rw [L0.out]; exact h60) (by rw [L1.out]; exact h61)) (by omega)
    have R0_5 := Lib.hid (R0_4.out.up b5)
    have R1_5 := Lib.hid (R1_4.out.up b5)
    have R10_5 := Lib.hid (R10_4.out.up b5)
    have R10f_5 := Lib.hid (R10f_4.out.up b5)
    have R11_5 := Lib.hid (R11_4.out.up b5)
    have R11f_5 := Lib.hid (R11f_4.out.up b5)
    have R12_5 := Lib.hid (R12_4.out.up b5)
    have B5 := Lib.hid (below_up B4.out b5)
    clear b5 R0_4 R1_4 R10_4 R10f_4 R11_4 R11f_4 R12_4 B4 o13
    go_wp2_with fail
    refine (Same_any A12 n12 c12 A13 n13 c13 _ (eitherR (l0) (l1)) (eitherR (l0) (l1)) L12.out R12_5.out (by omega) L13.out R13_5.out (by omega)).mono ?_
    rintro e w6 ⟨rfl, b6⟩
    rw [show decide ((eitherR (l0) (l1)) = (eitherR (l0) (l1))) = true from decide_eq_true rfl]
    have R0_6 := Lib.hid (R0_5.out.up b6)
    have R1_6 := Lib.hid (R1_5.out.up b6)
    have R10_6 := Lib.hid (R10_5.out.up b6)
    have R10f_6 := Lib.hid (R10f_5.out.up b6)
    have R11_6 := Lib.hid (R11_5.out.up b6)
    have R11f_6 := Lib.hid (R11f_5.out.up b6)
    have R12_6 := Lib.hid (R12_5.out.up b6)
    have R13_6 := Lib.hid (R13_5.out.up b6)
    have B6 := Lib.hid (below_up B5.out b6)
    clear b6 R0_5 R1_5 R10_5 R10f_5 R11_5 R11f_5 R12_5 R13_5 B5
    go_wp2_with fail
    clear R12_6
    clear R13_6
    refine (Both_any (some ⟨g10, 0, none⟩) len0 c10 (some ⟨g11, 0, none⟩) len1 c11 _ (l0) (l1) L0.out R10_6.out I0.out L1.out R11_6.out I1.out (by omega) (by omega)).mono ?_
    rintro e w7 ⟨⟨A14, n14, c14, rfl, o14⟩, b7⟩
    have L14 := Lib.hid o14.1
    have R14_7 := Lib.hid o14.rd
    have N14 := Lib.hid o14.none
    have h14 : n14 ≤ 120 := by rw [← L14.out]; exact Nat.le_trans (both_bd (by rw [L0.out]; exact h60) (by rw [L1.out]; exact h61)) (by omega)
    have R0_7 := Lib.hid (R0_6.out.up b7)
    have R1_7 := Lib.hid (R1_6.out.up b7)
    have R10_7 := Lib.hid (R10_6.out.up b7)
    have R10f_7 := Lib.hid (R10f_6.out.up b7)
    have R11_7 := Lib.hid (R11_6.out.up b7)
    have R11f_7 := Lib.hid (R11f_6.out.up b7)
    have B7 := Lib.hid (below_up B6.out b7)
    clear b7 R0_6 R1_6 R10_6 R10f_6 R11_6 R11f_6 B6 o14
    go_wp2_with fail
    refine (Mix_any A0 len0 cap0 A1 len1 cap1 1 (.inr (.inl rfl)) _ (l0) (l1) L0.out R0_7.out I0.out L1.out R1_7.out I1.out (by omega) (by omega)).mono ?_
    rintro e w8 ⟨⟨A15, n15, c15, rfl, o15⟩, b8⟩
    rw [mix_both] at o15
    have L15 := Lib.hid o15.1
    have R15_8 := Lib.hid o15.rd
    have N15 := Lib.hid o15.none
    have h15 : n15 ≤ 120 := by rw [← L15.out]; exact Nat.le_trans (both_bd (by rw [L0.out]; exact h60) (by rw [L1.out]; exact h61)) (by omega)
    have R0_8 := Lib.hid (R0_7.out.up b8)
    have R1_8 := Lib.hid (R1_7.out.up b8)
    have R10_8 := Lib.hid (R10_7.out.up b8)
    have R10f_8 := Lib.hid (R10f_7.out.up b8)
    have R11_8 := Lib.hid (R11_7.out.up b8)
    have R11f_8 := Lib.hid (R11f_7.out.up b8)
    have R14_8 := Lib.hid (R14_7.out.up b8)
    have B8 := Lib.hid (below_up B7.out b8)
    clear b8 R0_7 R1_7 R10_7 R10f_7 R11_7 R11f_7 R14_7 B7 o15
    go_wp2_with fail
    refine (Same_any A14 n14 c14 A15 n15 c15 _ (bothR (l0) (l1)) (bothR (l0) (l1)) L14.out R14_8.out (by omega) L15.out R15_8.out (by omega)).mono ?_
    rintro e w9 ⟨rfl, b9⟩
    rw [show decide ((bothR (l0) (l1)) = (bothR (l0) (l1))) = true from decide_eq_true rfl]
    have R0_9 := Lib.hid (R0_8.out.up b9)
    have R1_9 := Lib.hid (R1_8.out.up b9)
    have R10_9 := Lib.hid (R10_8.out.up b9)
    have R10f_9 := Lib.hid (R10f_8.out.up b9)
    have R11_9 := Lib.hid (R11_8.out.up b9)
    have R11f_9 := Lib.hid (R11f_8.out.up b9)
    have R14_9 := Lib.hid (R14_8.out.up b9)
    have R15_9 := Lib.hid (R15_8.out.up b9)
    have B9 := Lib.hid (below_up B8.out b9)
    clear b9 R0_8 R1_8 R10_8 R10f_8 R11_8 R11f_8 R14_8 R15_8 B8
    go_wp2_with fail
    clear R14_9
    clear R15_9
    refine (Less_any (some ⟨g10, 0, none⟩) len0 c10 (some ⟨g11, 0, none⟩) len1 c11 _ (l0) (l1) L0.out R10_9.out I0.out L1.out R11_9.out I1.out (by omega) (by omega)).mono ?_
    rintro e w10 ⟨⟨A16, n16, c16, rfl, o16⟩, b10⟩
    have L16 := Lib.hid o16.1
    have R16_10 := Lib.hid o16.rd
    have N16 := Lib.hid o16.none
    have h16 : n16 ≤ 3660 := by rw [← L16.out]; exact Nat.le_trans (less_bd (by rw [L0.out]; exact h60) (by rw [L1.out]; exact h61)) (by omega)
    have R0_10 := Lib.hid (R0_9.out.up b10)
    have R1_10 := Lib.hid (R1_9.out.up b10)
    have R10_10 := Lib.hid (R10_9.out.up b10)
    have R10f_10 := Lib.hid (R10f_9.out.up b10)
    have R11_10 := Lib.hid (R11_9.out.up b10)
    have R11f_10 := Lib.hid (R11f_9.out.up b10)
    have B10 := Lib.hid (below_up B9.out b10)
    clear b10 R0_9 R1_9 R10_9 R10f_9 R11_9 R11f_9 B9 o16
    go_wp2_with fail
    refine (Mix_any A0 len0 cap0 A1 len1 cap1 2 (.inr (.inr rfl)) _ (l0) (l1) L0.out R0_10.out I0.out L1.out R1_10.out I1.out (by omega) (by omega)).mono ?_
    rintro e w11 ⟨⟨A17, n17, c17, rfl, o17⟩, b11⟩
    rw [mix_less] at o17
    have L17 := Lib.hid o17.1
    have R17_11 := Lib.hid o17.rd
    have N17 := Lib.hid o17.none
    have h17 : n17 ≤ 3660 := by rw [← L17.out]; exact Nat.le_trans (less_bd (by rw [L0.out]; exact h60) (by rw [L1.out]; exact h61)) (by omega)
    have R0_11 := Lib.hid (R0_10.out.up b11)
    have R1_11 := Lib.hid (R1_10.out.up b11)
    have R10_11 := Lib.hid (R10_10.out.up b11)
    have R10f_11 := Lib.hid (R10f_10.out.up b11)
    have R11_11 := Lib.hid (R11_10.out.up b11)
    have R11f_11 := Lib.hid (R11f_10.out.up b11)
    have R16_11 := Lib.hid (R16_10.out.up b11)
    have B11 := Lib.hid (below_up B10.out b11)
    clear b11 R0_10 R1_10 R10_10 R10f_10 R11_10 R11f_10 R16_10 B10 o17
    go_wp2_with fail
    refine (Same_any A16 n16 c16 A17 n17 c17 _ (lessR (l0) (l1)) (lessR (l0) (l1)) L16.out R16_11.out (by omega) L17.out R17_11.out (by omega)).mono ?_
    rintro e w12 ⟨rfl, b12⟩
    rw [show decide ((lessR (l0) (l1)) = (lessR (l0) (l1))) = true from decide_eq_true rfl]
    have R0_12 := Lib.hid (R0_11.out.up b12)
    have R1_12 := Lib.hid (R1_11.out.up b12)
    have R10_12 := Lib.hid (R10_11.out.up b12)
    have R10f_12 := Lib.hid (R10f_11.out.up b12)
    have R11_12 := Lib.hid (R11_11.out.up b12)
    have R11f_12 := Lib.hid (R11f_11.out.up b12)
    have R16_12 := Lib.hid (R16_11.out.up b12)
    have R17_12 := Lib.hid (R17_11.out.up b12)
    have B12 := Lib.hid (below_up B11.out b12)
    clear b12 R0_11 R1_11 R10_11 R10f_11 R11_11 R11f_11 R16_11 R17_11 B11
    go_wp2_with fail
    clear R16_12
    clear R17_12
    refine (Kept_any (some ⟨g10, 0, none⟩) len0 c10 A0 cap0 _ (l0) L0.out R10f_12.out (by omega) (by omega) R0_12.out).mono ?_
    rintro e w13 ⟨rfl, b13⟩
    have R0_13 := Lib.hid (R0_12.out.up b13)
    have R1_13 := Lib.hid (R1_12.out.up b13)
    have R10_13 := Lib.hid (R10_12.out.up b13)
    have R10f_13 := Lib.hid (R10f_12.out.up b13)
    have R11_13 := Lib.hid (R11_12.out.up b13)
    have R11f_13 := Lib.hid (R11f_12.out.up b13)
    have B13 := Lib.hid (below_up B12.out b13)
    clear b13 R0_12 R1_12 R10_12 R10f_12 R11_12 R11f_12 B12
    go_wp2_with fail
    refine (Kept_any (some ⟨g11, 0, none⟩) len1 c11 A1 cap1 _ (l1) L1.out R11f_13.out (by omega) (by omega) R1_13.out).mono ?_
    rintro e w14 ⟨rfl, b14⟩
    have R0_14 := Lib.hid (R0_13.out.up b14)
    have R1_14 := Lib.hid (R1_13.out.up b14)
    have R10_14 := Lib.hid (R10_13.out.up b14)
    have R10f_14 := Lib.hid (R10f_13.out.up b14)
    have R11_14 := Lib.hid (R11_13.out.up b14)
    have R11f_14 := Lib.hid (R11f_13.out.up b14)
    have B14 := Lib.hid (below_up B13.out b14)
    clear b14 R0_13 R1_13 R10_13 R10f_13 R11_13 R11f_13 B13
    go_wp2_with fail
    go_ret
    exact ⟨rfl, B14.out⟩
  · have hlong : 60 < len0 ∨ 60 < len1 := by omega
    go_enter Try.func6, Try.ntmps6
    go_wp2_with fail
    refine (awake_any _).mono ?_
    rintro e w1 ⟨rfl, b1⟩
    have R0_1 := Lib.hid (R0_0.out.up b1)
    have R1_1 := Lib.hid (R1_0.out.up b1)
    have B1 := Lib.hid b1
    clear b1 R0_0 R1_0
    go_wp2_with fail
    refine (long_yes A0 len0 cap0 A1 len1 cap1 _ (by omega)).mono ?_
    rintro e wl ⟨rfl, rfl⟩
    go_wp2_with fail
    refine (awake_any _).mono ?_
    rintro e w2 ⟨rfl, b2⟩
    have R0_2 := Lib.hid (R0_1.out.up b2)
    have R1_2 := Lib.hid (R1_1.out.up b2)
    have B2 := Lib.hid (below_up B1.out b2)
    clear b2 R0_1 R1_1 B1
    go_wp2_with fail
    go_ret
    exact ⟨rfl, B2.out⟩
set_option maxHeartbeats 1600000 in
theorem turned_walk (A0 : Option Addr) (len0 cap0 : Nat) (A1 : Option Addr) (len1 cap1 : Nat) (A2 : Option Addr) (len2 cap2 : Nat) (w : World) (l0 l1 l2 : List R) (hl0 : l0.length = len0) (hr0 : Rd w w.heap.size A0 l0) (hI0 : IR l0) (hno0 : A0 = none → len0 = 0 ∧ cap0 = 0) (hm0 : len0 ≤ 9223372036854775807) (hl1 : l1.length = len1) (hr1 : Rd w w.heap.size A1 l1) (hI1 : IR l1) (hno1 : A1 = none → len1 = 0 ∧ cap1 = 0) (hm1 : len1 ≤ 9223372036854775807) (hl2 : l2.length = len2) (hr2 : Rd w w.heap.size A2 l2) (hI2 : IR l2) (hno2 : A2 = none → len2 = 0 ∧ cap2 = 0) (hm2 : len2 ≤ 9223372036854775807) :
    Calls Try.prog 8 #[.slice A0 len0 cap0, .slice A1 len1 cap1, .slice A2 len2 cap2] w fun e w' => e = .returned (.bool true) ∧ Below w.heap.size w w' := by
  have L0 := Lib.hid hl0; have R0_0 := Lib.hid hr0; have I0 := Lib.hid hI0; have N0 := Lib.hid hno0
  clear hl0 hr0 hI0 hno0
  have L1 := Lib.hid hl1; have R1_0 := Lib.hid hr1; have I1 := Lib.hid hI1; have N1 := Lib.hid hno1
  clear hl1 hr1 hI1 hno1
  have L2 := Lib.hid hl2; have R2_0 := Lib.hid hr2; have I2 := Lib.hid hI2; have N2 := Lib.hid hno2
  clear hl2 hr2 hI2 hno2
  by_cases h60 : len0 ≤ 60 ∧ len1 ≤ 60 ∧ len2 ≤ 60
  · obtain ⟨h60, h61, h62⟩ := h60
    go_enter Try.func8, Try.ntmps8
    go_wp2_with fail
    refine (awake_any _).mono ?_
    rintro e w1 ⟨rfl, b1⟩
    have R0_1 := Lib.hid (R0_0.out.up b1)
    have R1_1 := Lib.hid (R1_0.out.up b1)
    have R2_1 := Lib.hid (R2_0.out.up b1)
    have B1 := Lib.hid b1
    clear b1 R0_0 R1_0 R2_0
    go_wp2_with fail
    refine (long_no A0 len0 cap0 A1 len1 cap1 _ (by omega) (by omega)).mono ?_
    rintro e wl ⟨rfl, rfl⟩
    go_wp2_with fail
    refine (Either_any A0 len0 cap0 A1 len1 cap1 _ (l0) (l1) L0.out R0_1.out I0.out N0.out L1.out R1_1.out I1.out N1.out (by omega) (by omega)).mono ?_
    rintro e w2 ⟨⟨A10, n10, c10, rfl, o10⟩, b2⟩
    have L10 := Lib.hid o10.1
    have R10_2 := Lib.hid o10.rd
    have N10 := Lib.hid o10.none
    have h10 : n10 ≤ 120 := by rw [← L10.out]; exact Nat.le_trans (either_bd (by rw [L0.out]; exact h60) (by rw [L1.out]; exact h61)) (by omega)
    have R0_2 := Lib.hid (R0_1.out.up b2)
    have R1_2 := Lib.hid (R1_1.out.up b2)
    have R2_2 := Lib.hid (R2_1.out.up b2)
    have B2 := Lib.hid (below_up B1.out b2)
    clear b2 R0_1 R1_1 R2_1 B1 o10
    go_wp2_with fail
    refine (Either_any A1 len1 cap1 A0 len0 cap0 _ (l1) (l0) L1.out R1_2.out I1.out N1.out L0.out R0_2.out I0.out N0.out (by omega) (by omega)).mono ?_
    rintro e w3 ⟨⟨A11, n11, c11, rfl, o11⟩, b3⟩
    have L11 := Lib.hid o11.1
    have R11_3 := Lib.hid o11.rd
    have N11 := Lib.hid o11.none
    have h11 : n11 ≤ 120 := by rw [← L11.out]; exact Nat.le_trans (either_bd (by rw [L1.out]; exact h61) (by rw [L0.out]; exact h60)) (by omega)
    have R0_3 := Lib.hid (R0_2.out.up b3)
    have R1_3 := Lib.hid (R1_2.out.up b3)
    have R2_3 := Lib.hid (R2_2.out.up b3)
    have R10_3 := Lib.hid (R10_2.out.up b3)
    have B3 := Lib.hid (below_up B2.out b3)
    clear b3 R0_2 R1_2 R2_2 R10_2 B2 o11
    go_wp2_with fail
    refine (Same_any A10 n10 c10 A11 n11 c11 _ (eitherR (l0) (l1)) (eitherR (l1) (l0)) L10.out R10_3.out (by omega) L11.out R11_3.out (by omega)).mono ?_
    rintro e w4 ⟨rfl, b4⟩
    rw [show decide ((eitherR (l0) (l1)) = (eitherR (l1) (l0))) = true from decide_eq_true (turned l0 l1 l2).1]
    have R0_4 := Lib.hid (R0_3.out.up b4)
    have R1_4 := Lib.hid (R1_3.out.up b4)
    have R2_4 := Lib.hid (R2_3.out.up b4)
    have R10_4 := Lib.hid (R10_3.out.up b4)
    have R11_4 := Lib.hid (R11_3.out.up b4)
    have B4 := Lib.hid (below_up B3.out b4)
    clear b4 R0_3 R1_3 R2_3 R10_3 R11_3 B3
    go_wp2_with fail
    clear R10_4
    clear R11_4
    refine (Both_any A0 len0 cap0 A1 len1 cap1 _ (l0) (l1) L0.out R0_4.out I0.out L1.out R1_4.out I1.out (by omega) (by omega)).mono ?_
    rintro e w5 ⟨⟨A12, n12, c12, rfl, o12⟩, b5⟩
    have L12 := Lib.hid o12.1
    have R12_5 := Lib.hid o12.rd
    have N12 := Lib.hid o12.none
    have h12 : n12 ≤ 120 := by rw [← L12.out]; exact Nat.le_trans (both_bd (by rw [L0.out]; exact h60) (by rw [L1.out]; exact h61)) (by omega)
    have R0_5 := Lib.hid (R0_4.out.up b5)
    have R1_5 := Lib.hid (R1_4.out.up b5)
    have R2_5 := Lib.hid (R2_4.out.up b5)
    have B5 := Lib.hid (below_up B4.out b5)
    clear b5 R0_4 R1_4 R2_4 B4 o12
    go_wp2_with fail
    refine (Both_any A1 len1 cap1 A0 len0 cap0 _ (l1) (l0) L1.out R1_5.out I1.out L0.out R0_5.out I0.out (by omega) (by omega)).mono ?_
    rintro e w6 ⟨⟨A13, n13, c13, rfl, o13⟩, b6⟩
    have L13 := Lib.hid o13.1
    have R13_6 := Lib.hid o13.rd
    have N13 := Lib.hid o13.none
    have h13 : n13 ≤ 120 := by rw [← L13.out]; exact Nat.le_trans (both_bd (by rw [L1.out]; exact h61) (by rw [L0.out]; exact h60)) (by omega)
    have R0_6 := Lib.hid (R0_5.out.up b6)
    have R1_6 := Lib.hid (R1_5.out.up b6)
    have R2_6 := Lib.hid (R2_5.out.up b6)
    have R12_6 := Lib.hid (R12_5.out.up b6)
    have B6 := Lib.hid (below_up B5.out b6)
    clear b6 R0_5 R1_5 R2_5 R12_5 B5 o13
    go_wp2_with fail
    refine (Same_any A12 n12 c12 A13 n13 c13 _ (bothR (l0) (l1)) (bothR (l1) (l0)) L12.out R12_6.out (by omega) L13.out R13_6.out (by omega)).mono ?_
    rintro e w7 ⟨rfl, b7⟩
    rw [show decide ((bothR (l0) (l1)) = (bothR (l1) (l0))) = true from decide_eq_true (turned l0 l1 l2).2.1]
    have R0_7 := Lib.hid (R0_6.out.up b7)
    have R1_7 := Lib.hid (R1_6.out.up b7)
    have R2_7 := Lib.hid (R2_6.out.up b7)
    have R12_7 := Lib.hid (R12_6.out.up b7)
    have R13_7 := Lib.hid (R13_6.out.up b7)
    have B7 := Lib.hid (below_up B6.out b7)
    clear b7 R0_6 R1_6 R2_6 R12_6 R13_6 B6
    go_wp2_with fail
    clear R12_7
    clear R13_7
    refine (Either_any A0 len0 cap0 A0 len0 cap0 _ (l0) (l0) L0.out R0_7.out I0.out N0.out L0.out R0_7.out I0.out N0.out (by omega) (by omega)).mono ?_
    rintro e w8 ⟨⟨A14, n14, c14, rfl, o14⟩, b8⟩
    have L14 := Lib.hid o14.1
    have R14_8 := Lib.hid o14.rd
    have N14 := Lib.hid o14.none
    have h14 : n14 ≤ 120 := by rw [← L14.out]; exact Nat.le_trans (either_bd (by rw [L0.out]; exact h60) (by rw [L0.out]; exact h60)) (by omega)
    have R0_8 := Lib.hid (R0_7.out.up b8)
    have R1_8 := Lib.hid (R1_7.out.up b8)
    have R2_8 := Lib.hid (R2_7.out.up b8)
    have B8 := Lib.hid (below_up B7.out b8)
    clear b8 R0_7 R1_7 R2_7 B7 o14
    go_wp2_with fail
    refine (Normal_any A0 len0 cap0 _ (l0) L0.out R0_8.out I0.out (by omega)).mono ?_
    rintro e w9 ⟨⟨A15, n15, c15, rfl, o15⟩, b9⟩
    have L15 := Lib.hid o15.1
    have R15_9 := Lib.hid o15.rd
    have N15 := Lib.hid o15.none
    have h15 : n15 ≤ 60 := by rw [← L15.out]; exact Nat.le_trans (nl_bd (by rw [L0.out]; exact h60)) (by omega)
    have R0_9 := Lib.hid (R0_8.out.up b9)
    have R1_9 := Lib.hid (R1_8.out.up b9)
    have R2_9 := Lib.hid (R2_8.out.up b9)
    have R14_9 := Lib.hid (R14_8.out.up b9)
    have B9 := Lib.hid (below_up B8.out b9)
    clear b9 R0_8 R1_8 R2_8 R14_8 B8 o15
    go_wp2_with fail
    refine (Same_any A14 n14 c14 A15 n15 c15 _ (eitherR (l0) (l0)) (nl (l0)) L14.out R14_9.out (by omega) L15.out R15_9.out (by omega)).mono ?_
    rintro e w10 ⟨rfl, b10⟩
    rw [show decide ((eitherR (l0) (l0)) = (nl (l0))) = true from decide_eq_true (turned l0 l1 l2).2.2.1]
    have R0_10 := Lib.hid (R0_9.out.up b10)
    have R1_10 := Lib.hid (R1_9.out.up b10)
    have R2_10 := Lib.hid (R2_9.out.up b10)
    have R14_10 := Lib.hid (R14_9.out.up b10)
    have R15_10 := Lib.hid (R15_9.out.up b10)
    have B10 := Lib.hid (below_up B9.out b10)
    clear b10 R0_9 R1_9 R2_9 R14_9 R15_9 B9
    go_wp2_with fail
    clear R14_10
    clear R15_10
    refine (Either_any A0 len0 cap0 A1 len1 cap1 _ (l0) (l1) L0.out R0_10.out I0.out N0.out L1.out R1_10.out I1.out N1.out (by omega) (by omega)).mono ?_
    rintro e w11 ⟨⟨A16, n16, c16, rfl, o16⟩, b11⟩
    have L16 := Lib.hid o16.1
    have R16_11 := Lib.hid o16.rd
    have N16 := Lib.hid o16.none
    have h16 : n16 ≤ 120 := by rw [← L16.out]; exact Nat.le_trans (either_bd (by rw [L0.out]; exact h60) (by rw [L1.out]; exact h61)) (by omega)
    have R0_11 := Lib.hid (R0_10.out.up b11)
    have R1_11 := Lib.hid (R1_10.out.up b11)
    have R2_11 := Lib.hid (R2_10.out.up b11)
    have B11 := Lib.hid (below_up B10.out b11)
    clear b11 R0_10 R1_10 R2_10 B10 o16
    go_wp2_with fail
    refine (Either_any A16 n16 c16 A2 len2 cap2 _ (eitherR (l0) (l1)) (l2) L16.out R16_11.out (eitherR_nn I0.out I1.out).ir N16.out L2.out R2_11.out I2.out N2.out (by omega) (by omega)).mono ?_
    rintro e w12 ⟨⟨A17, n17, c17, rfl, o17⟩, b12⟩
    have L17 := Lib.hid o17.1
    have R17_12 := Lib.hid o17.rd
    have N17 := Lib.hid o17.none
    have h17 : n17 ≤ 180 := by rw [← L17.out]; exact Nat.le_trans (either_bd (by rw [L16.out]; exact h16) (by rw [L2.out]; exact h62)) (by omega)
    have R0_12 := Lib.hid (R0_11.out.up b12)
    have R1_12 := Lib.hid (R1_11.out.up b12)
    have R2_12 := Lib.hid (R2_11.out.up b12)
    have R16_12 := Lib.hid (R16_11.out.up b12)
    have B12 := Lib.hid (below_up B11.out b12)
    clear b12 R0_11 R1_11 R2_11 R16_11 B11 o17
    go_wp2_with fail
    clear R16_12
    refine (Either_any A1 len1 cap1 A2 len2 cap2 _ (l1) (l2) L1.out R1_12.out I1.out N1.out L2.out R2_12.out I2.out N2.out (by omega) (by omega)).mono ?_
    rintro e w13 ⟨⟨A18, n18, c18, rfl, o18⟩, b13⟩
    have L18 := Lib.hid o18.1
    have R18_13 := Lib.hid o18.rd
    have N18 := Lib.hid o18.none
    have h18 : n18 ≤ 120 := by rw [← L18.out]; exact Nat.le_trans (either_bd (by rw [L1.out]; exact h61) (by rw [L2.out]; exact h62)) (by omega)
    have R0_13 := Lib.hid (R0_12.out.up b13)
    have R1_13 := Lib.hid (R1_12.out.up b13)
    have R2_13 := Lib.hid (R2_12.out.up b13)
    have R17_13 := Lib.hid (R17_12.out.up b13)
    have B13 := Lib.hid (below_up B12.out b13)
    clear b13 R0_12 R1_12 R2_12 R17_12 B12 o18
    go_wp2_with fail
    refine (Either_any A0 len0 cap0 A18 n18 c18 _ (l0) (eitherR (l1) (l2)) L0.out R0_13.out I0.out N0.out L18.out R18_13.out (eitherR_nn I1.out I2.out).ir N18.out (by omega) (by omega)).mono ?_
    rintro e w14 ⟨⟨A19, n19, c19, rfl, o19⟩, b14⟩
    have L19 := Lib.hid o19.1
    have R19_14 := Lib.hid o19.rd
    have N19 := Lib.hid o19.none
    have h19 : n19 ≤ 180 := by rw [← L19.out]; exact Nat.le_trans (either_bd (by rw [L0.out]; exact h60) (by rw [L18.out]; exact h18)) (by omega)
    have R0_14 := Lib.hid (R0_13.out.up b14)
    have R1_14 := Lib.hid (R1_13.out.up b14)
    have R2_14 := Lib.hid (R2_13.out.up b14)
    have R17_14 := Lib.hid (R17_13.out.up b14)
    have R18_14 := Lib.hid (R18_13.out.up b14)
    have B14 := Lib.hid (below_up B13.out b14)
    clear b14 R0_13 R1_13 R2_13 R17_13 R18_13 B13 o19
    go_wp2_with fail
    clear R18_14
    refine (Same_any A17 n17 c17 A19 n19 c19 _ (eitherR (eitherR (l0) (l1)) (l2)) (eitherR (l0) (eitherR (l1) (l2))) L17.out R17_14.out (by omega) L19.out R19_14.out (by omega)).mono ?_
    rintro e w15 ⟨rfl, b15⟩
    rw [show decide ((eitherR (eitherR (l0) (l1)) (l2)) = (eitherR (l0) (eitherR (l1) (l2)))) = true from decide_eq_true (turned l0 l1 l2).2.2.2.1]
    have R0_15 := Lib.hid (R0_14.out.up b15)
    have R1_15 := Lib.hid (R1_14.out.up b15)
    have R2_15 := Lib.hid (R2_14.out.up b15)
    have R17_15 := Lib.hid (R17_14.out.up b15)
    have R19_15 := Lib.hid (R19_14.out.up b15)
    have B15 := Lib.hid (below_up B14.out b15)
    clear b15 R0_14 R1_14 R2_14 R17_14 R19_14 B14
    go_wp2_with fail
    clear R17_15
    clear R19_15
    refine (Both_any A0 len0 cap0 A1 len1 cap1 _ (l0) (l1) L0.out R0_15.out I0.out L1.out R1_15.out I1.out (by omega) (by omega)).mono ?_
    rintro e w16 ⟨⟨A20, n20, c20, rfl, o20⟩, b16⟩
    have L20 := Lib.hid o20.1
    have R20_16 := Lib.hid o20.rd
    have N20 := Lib.hid o20.none
    have h20 : n20 ≤ 120 := by rw [← L20.out]; exact Nat.le_trans (both_bd (by rw [L0.out]; exact h60) (by rw [L1.out]; exact h61)) (by omega)
    have R0_16 := Lib.hid (R0_15.out.up b16)
    have R1_16 := Lib.hid (R1_15.out.up b16)
    have R2_16 := Lib.hid (R2_15.out.up b16)
    have B16 := Lib.hid (below_up B15.out b16)
    clear b16 R0_15 R1_15 R2_15 B15 o20
    go_wp2_with fail
    refine (Both_any A20 n20 c20 A2 len2 cap2 _ (bothR (l0) (l1)) (l2) L20.out R20_16.out (bothR_nn (b := l1) I0.out).ir L2.out R2_16.out I2.out (by omega) (by omega)).mono ?_
    rintro e w17 ⟨⟨A21, n21, c21, rfl, o21⟩, b17⟩
    have L21 := Lib.hid o21.1
    have R21_17 := Lib.hid o21.rd
    have N21 := Lib.hid o21.none
    have h21 : n21 ≤ 180 := by rw [← L21.out]; exact Nat.le_trans (both_bd (by rw [L20.out]; exact h20) (by rw [L2.out]; exact h62)) (by omega)
    have R0_17 := Lib.hid (R0_16.out.up b17)
    have R1_17 := Lib.hid (R1_16.out.up b17)
    have R2_17 := Lib.hid (R2_16.out.up b17)
    have R20_17 := Lib.hid (R20_16.out.up b17)
    have B17 := Lib.hid (below_up B16.out b17)
    clear b17 R0_16 R1_16 R2_16 R20_16 B16 o21
    go_wp2_with fail
    clear R20_17
    refine (Both_any A1 len1 cap1 A2 len2 cap2 _ (l1) (l2) L1.out R1_17.out I1.out L2.out R2_17.out I2.out (by omega) (by omega)).mono ?_
    rintro e w18 ⟨⟨A22, n22, c22, rfl, o22⟩, b18⟩
    have L22 := Lib.hid o22.1
    have R22_18 := Lib.hid o22.rd
    have N22 := Lib.hid o22.none
    have h22 : n22 ≤ 120 := by rw [← L22.out]; exact Nat.le_trans (both_bd (by rw [L1.out]; exact h61) (by rw [L2.out]; exact h62)) (by omega)
    have R0_18 := Lib.hid (R0_17.out.up b18)
    have R1_18 := Lib.hid (R1_17.out.up b18)
    have R2_18 := Lib.hid (R2_17.out.up b18)
    have R21_18 := Lib.hid (R21_17.out.up b18)
    have B18 := Lib.hid (below_up B17.out b18)
    clear b18 R0_17 R1_17 R2_17 R21_17 B17 o22
    go_wp2_with fail
    refine (Both_any A0 len0 cap0 A22 n22 c22 _ (l0) (bothR (l1) (l2)) L0.out R0_18.out I0.out L22.out R22_18.out (bothR_nn (b := l2) I1.out).ir (by omega) (by omega)).mono ?_
    rintro e w19 ⟨⟨A23, n23, c23, rfl, o23⟩, b19⟩
    have L23 := Lib.hid o23.1
    have R23_19 := Lib.hid o23.rd
    have N23 := Lib.hid o23.none
    have h23 : n23 ≤ 180 := by rw [← L23.out]; exact Nat.le_trans (both_bd (by rw [L0.out]; exact h60) (by rw [L22.out]; exact h22)) (by omega)
    have R0_19 := Lib.hid (R0_18.out.up b19)
    have R1_19 := Lib.hid (R1_18.out.up b19)
    have R2_19 := Lib.hid (R2_18.out.up b19)
    have R21_19 := Lib.hid (R21_18.out.up b19)
    have R22_19 := Lib.hid (R22_18.out.up b19)
    have B19 := Lib.hid (below_up B18.out b19)
    clear b19 R0_18 R1_18 R2_18 R21_18 R22_18 B18 o23
    go_wp2_with fail
    clear R22_19
    refine (Same_any A21 n21 c21 A23 n23 c23 _ (bothR (bothR (l0) (l1)) (l2)) (bothR (l0) (bothR (l1) (l2))) L21.out R21_19.out (by omega) L23.out R23_19.out (by omega)).mono ?_
    rintro e w20 ⟨rfl, b20⟩
    rw [show decide ((bothR (bothR (l0) (l1)) (l2)) = (bothR (l0) (bothR (l1) (l2)))) = true from decide_eq_true (turned l0 l1 l2).2.2.2.2.1]
    have R0_20 := Lib.hid (R0_19.out.up b20)
    have R1_20 := Lib.hid (R1_19.out.up b20)
    have R2_20 := Lib.hid (R2_19.out.up b20)
    have R21_20 := Lib.hid (R21_19.out.up b20)
    have R23_20 := Lib.hid (R23_19.out.up b20)
    have B20 := Lib.hid (below_up B19.out b20)
    clear b20 R0_19 R1_19 R2_19 R21_19 R23_19 B19
    go_wp2_with fail
    clear R21_20
    clear R23_20
    refine (Less_any A0 len0 cap0 A1 len1 cap1 _ (l0) (l1) L0.out R0_20.out I0.out L1.out R1_20.out I1.out (by omega) (by omega)).mono ?_
    rintro e w21 ⟨⟨A24, n24, c24, rfl, o24⟩, b21⟩
    have L24 := Lib.hid o24.1
    have R24_21 := Lib.hid o24.rd
    have N24 := Lib.hid o24.none
    have h24 : n24 ≤ 3660 := by rw [← L24.out]; exact Nat.le_trans (less_bd (by rw [L0.out]; exact h60) (by rw [L1.out]; exact h61)) (by omega)
    have R0_21 := Lib.hid (R0_20.out.up b21)
    have R1_21 := Lib.hid (R1_20.out.up b21)
    have R2_21 := Lib.hid (R2_20.out.up b21)
    have B21 := Lib.hid (below_up B20.out b21)
    clear b21 R0_20 R1_20 R2_20 B20 o24
    go_wp2_with fail
    refine (Less_any A24 n24 c24 A2 len2 cap2 _ (lessR (l0) (l1)) (l2) L24.out R24_21.out (lessR_nn (b := l1) I0.out).ir L2.out R2_21.out I2.out (by omega) (by omega)).mono ?_
    rintro e w22 ⟨⟨A25, n25, c25, rfl, o25⟩, b22⟩
    have L25 := Lib.hid o25.1
    have R25_22 := Lib.hid o25.rd
    have N25 := Lib.hid o25.none
    have h25 : n25 ≤ 223260 := by rw [← L25.out]; exact Nat.le_trans (less_bd (by rw [L24.out]; exact h24) (by rw [L2.out]; exact h62)) (by omega)
    have R0_22 := Lib.hid (R0_21.out.up b22)
    have R1_22 := Lib.hid (R1_21.out.up b22)
    have R2_22 := Lib.hid (R2_21.out.up b22)
    have R24_22 := Lib.hid (R24_21.out.up b22)
    have B22 := Lib.hid (below_up B21.out b22)
    clear b22 R0_21 R1_21 R2_21 R24_21 B21 o25
    go_wp2_with fail
    clear R24_22
    refine (Either_any A1 len1 cap1 A2 len2 cap2 _ (l1) (l2) L1.out R1_22.out I1.out N1.out L2.out R2_22.out I2.out N2.out (by omega) (by omega)).mono ?_
    rintro e w23 ⟨⟨A26, n26, c26, rfl, o26⟩, b23⟩
    have L26 := Lib.hid o26.1
    have R26_23 := Lib.hid o26.rd
    have N26 := Lib.hid o26.none
    have h26 : n26 ≤ 120 := by rw [← L26.out]; exact Nat.le_trans (either_bd (by rw [L1.out]; exact h61) (by rw [L2.out]; exact h62)) (by omega)
    have R0_23 := Lib.hid (R0_22.out.up b23)
    have R1_23 := Lib.hid (R1_22.out.up b23)
    have R2_23 := Lib.hid (R2_22.out.up b23)
    have R25_23 := Lib.hid (R25_22.out.up b23)
    have B23 := Lib.hid (below_up B22.out b23)
    clear b23 R0_22 R1_22 R2_22 R25_22 B22 o26
    go_wp2_with fail
    refine (Less_any A0 len0 cap0 A26 n26 c26 _ (l0) (eitherR (l1) (l2)) L0.out R0_23.out I0.out L26.out R26_23.out (eitherR_nn I1.out I2.out).ir (by omega) (by omega)).mono ?_
    rintro e w24 ⟨⟨A27, n27, c27, rfl, o27⟩, b24⟩
    have L27 := Lib.hid o27.1
    have R27_24 := Lib.hid o27.rd
    have N27 := Lib.hid o27.none
    have h27 : n27 ≤ 7260 := by rw [← L27.out]; exact Nat.le_trans (less_bd (by rw [L0.out]; exact h60) (by rw [L26.out]; exact h26)) (by omega)
    have R0_24 := Lib.hid (R0_23.out.up b24)
    have R1_24 := Lib.hid (R1_23.out.up b24)
    have R2_24 := Lib.hid (R2_23.out.up b24)
    have R25_24 := Lib.hid (R25_23.out.up b24)
    have R26_24 := Lib.hid (R26_23.out.up b24)
    have B24 := Lib.hid (below_up B23.out b24)
    clear b24 R0_23 R1_23 R2_23 R25_23 R26_23 B23 o27
    go_wp2_with fail
    clear R26_24
    refine (Same_any A25 n25 c25 A27 n27 c27 _ (lessR (lessR (l0) (l1)) (l2)) (lessR (l0) (eitherR (l1) (l2))) L25.out R25_24.out (by omega) L27.out R27_24.out (by omega)).mono ?_
    rintro e w25 ⟨rfl, b25⟩
    rw [show decide ((lessR (lessR (l0) (l1)) (l2)) = (lessR (l0) (eitherR (l1) (l2)))) = true from decide_eq_true (turned l0 l1 l2).2.2.2.2.2.1]
    have R0_25 := Lib.hid (R0_24.out.up b25)
    have R1_25 := Lib.hid (R1_24.out.up b25)
    have R2_25 := Lib.hid (R2_24.out.up b25)
    have R25_25 := Lib.hid (R25_24.out.up b25)
    have R27_25 := Lib.hid (R27_24.out.up b25)
    have B25 := Lib.hid (below_up B24.out b25)
    clear b25 R0_24 R1_24 R2_24 R25_24 R27_24 B24
    go_wp2_with fail
    clear R25_25
    clear R27_25
    refine (Either_any A1 len1 cap1 A2 len2 cap2 _ (l1) (l2) L1.out R1_25.out I1.out N1.out L2.out R2_25.out I2.out N2.out (by omega) (by omega)).mono ?_
    rintro e w26 ⟨⟨A28, n28, c28, rfl, o28⟩, b26⟩
    have L28 := Lib.hid o28.1
    have R28_26 := Lib.hid o28.rd
    have N28 := Lib.hid o28.none
    have h28 : n28 ≤ 120 := by rw [← L28.out]; exact Nat.le_trans (either_bd (by rw [L1.out]; exact h61) (by rw [L2.out]; exact h62)) (by omega)
    have R0_26 := Lib.hid (R0_25.out.up b26)
    have R1_26 := Lib.hid (R1_25.out.up b26)
    have R2_26 := Lib.hid (R2_25.out.up b26)
    have B26 := Lib.hid (below_up B25.out b26)
    clear b26 R0_25 R1_25 R2_25 B25 o28
    go_wp2_with fail
    refine (Both_any A0 len0 cap0 A28 n28 c28 _ (l0) (eitherR (l1) (l2)) L0.out R0_26.out I0.out L28.out R28_26.out (eitherR_nn I1.out I2.out).ir (by omega) (by omega)).mono ?_
    rintro e w27 ⟨⟨A29, n29, c29, rfl, o29⟩, b27⟩
    have L29 := Lib.hid o29.1
    have R29_27 := Lib.hid o29.rd
    have N29 := Lib.hid o29.none
    have h29 : n29 ≤ 180 := by rw [← L29.out]; exact Nat.le_trans (both_bd (by rw [L0.out]; exact h60) (by rw [L28.out]; exact h28)) (by omega)
    have R0_27 := Lib.hid (R0_26.out.up b27)
    have R1_27 := Lib.hid (R1_26.out.up b27)
    have R2_27 := Lib.hid (R2_26.out.up b27)
    have R28_27 := Lib.hid (R28_26.out.up b27)
    have B27 := Lib.hid (below_up B26.out b27)
    clear b27 R0_26 R1_26 R2_26 R28_26 B26 o29
    go_wp2_with fail
    clear R28_27
    refine (Both_any A0 len0 cap0 A1 len1 cap1 _ (l0) (l1) L0.out R0_27.out I0.out L1.out R1_27.out I1.out (by omega) (by omega)).mono ?_
    rintro e w28 ⟨⟨A30, n30, c30, rfl, o30⟩, b28⟩
    have L30 := Lib.hid o30.1
    have R30_28 := Lib.hid o30.rd
    have N30 := Lib.hid o30.none
    have h30 : n30 ≤ 120 := by rw [← L30.out]; exact Nat.le_trans (both_bd (by rw [L0.out]; exact h60) (by rw [L1.out]; exact h61)) (by omega)
    have R0_28 := Lib.hid (R0_27.out.up b28)
    have R1_28 := Lib.hid (R1_27.out.up b28)
    have R2_28 := Lib.hid (R2_27.out.up b28)
    have R29_28 := Lib.hid (R29_27.out.up b28)
    have B28 := Lib.hid (below_up B27.out b28)
    clear b28 R0_27 R1_27 R2_27 R29_27 B27 o30
    go_wp2_with fail
    refine (Both_any A0 len0 cap0 A2 len2 cap2 _ (l0) (l2) L0.out R0_28.out I0.out L2.out R2_28.out I2.out (by omega) (by omega)).mono ?_
    rintro e w29 ⟨⟨A31, n31, c31, rfl, o31⟩, b29⟩
    have L31 := Lib.hid o31.1
    have R31_29 := Lib.hid o31.rd
    have N31 := Lib.hid o31.none
    have h31 : n31 ≤ 120 := by rw [← L31.out]; exact Nat.le_trans (both_bd (by rw [L0.out]; exact h60) (by rw [L2.out]; exact h62)) (by omega)
    have R0_29 := Lib.hid (R0_28.out.up b29)
    have R1_29 := Lib.hid (R1_28.out.up b29)
    have R2_29 := Lib.hid (R2_28.out.up b29)
    have R29_29 := Lib.hid (R29_28.out.up b29)
    have R30_29 := Lib.hid (R30_28.out.up b29)
    have B29 := Lib.hid (below_up B28.out b29)
    clear b29 R0_28 R1_28 R2_28 R29_28 R30_28 B28 o31
    go_wp2_with fail
    refine (Either_any A30 n30 c30 A31 n31 c31 _ (bothR (l0) (l1)) (bothR (l0) (l2)) L30.out R30_29.out (bothR_nn (b := l1) I0.out).ir N30.out L31.out R31_29.out (bothR_nn (b := l2) I0.out).ir N31.out (by omega) (by omega)).mono ?_
    rintro e w30 ⟨⟨A32, n32, c32, rfl, o32⟩, b30⟩
    have L32 := Lib.hid o32.1
    have R32_30 := Lib.hid o32.rd
    have N32 := Lib.hid o32.none
    have h32 : n32 ≤ 240 := by rw [← L32.out]; exact Nat.le_trans (either_bd (by rw [L30.out]; exact h30) (by rw [L31.out]; exact h31)) (by omega)
    have R0_30 := Lib.hid (R0_29.out.up b30)
    have R1_30 := Lib.hid (R1_29.out.up b30)
    have R2_30 := Lib.hid (R2_29.out.up b30)
    have R29_30 := Lib.hid (R29_29.out.up b30)
    have R30_30 := Lib.hid (R30_29.out.up b30)
    have R31_30 := Lib.hid (R31_29.out.up b30)
    have B30 := Lib.hid (below_up B29.out b30)
    clear b30 R0_29 R1_29 R2_29 R29_29 R30_29 R31_29 B29 o32
    go_wp2_with fail
    clear R30_30
    clear R31_30
    refine (Same_any A29 n29 c29 A32 n32 c32 _ (bothR (l0) (eitherR (l1) (l2))) (eitherR (bothR (l0) (l1)) (bothR (l0) (l2))) L29.out R29_30.out (by omega) L32.out R32_30.out (by omega)).mono ?_
    rintro e w31 ⟨rfl, b31⟩
    rw [show decide ((bothR (l0) (eitherR (l1) (l2))) = (eitherR (bothR (l0) (l1)) (bothR (l0) (l2)))) = true from decide_eq_true (turned l0 l1 l2).2.2.2.2.2.2]
    have R0_31 := Lib.hid (R0_30.out.up b31)
    have R1_31 := Lib.hid (R1_30.out.up b31)
    have R2_31 := Lib.hid (R2_30.out.up b31)
    have R29_31 := Lib.hid (R29_30.out.up b31)
    have R32_31 := Lib.hid (R32_30.out.up b31)
    have B31 := Lib.hid (below_up B30.out b31)
    clear b31 R0_30 R1_30 R2_30 R29_30 R32_30 B30
    go_wp2_with fail
    clear R29_31
    clear R32_31
    go_ret
    exact ⟨rfl, B31.out⟩
  · by_cases h61 : 60 < len0 ∨ 60 < len1
    · have hlong := h61
      go_enter Try.func8, Try.ntmps8
      go_wp2_with fail
      refine (awake_any _).mono ?_
      rintro e w1 ⟨rfl, b1⟩
      have R0_1 := Lib.hid (R0_0.out.up b1)
      have R1_1 := Lib.hid (R1_0.out.up b1)
      have R2_1 := Lib.hid (R2_0.out.up b1)
      have B1 := Lib.hid b1
      clear b1 R0_0 R1_0 R2_0
      go_wp2_with fail
      refine (long_yes A0 len0 cap0 A1 len1 cap1 _ h61).mono ?_
      rintro e wl ⟨rfl, rfl⟩
      go_wp2_with fail
      refine (awake_any _).mono ?_
      rintro e w2 ⟨rfl, b2⟩
      have R0_2 := Lib.hid (R0_1.out.up b2)
      have R1_2 := Lib.hid (R1_1.out.up b2)
      have R2_2 := Lib.hid (R2_1.out.up b2)
      have B2 := Lib.hid (below_up B1.out b2)
      clear b2 R0_1 R1_1 R2_1 B1
      go_wp2_with fail
      go_ret
      exact ⟨rfl, B2.out⟩
    · have hlong : (60 : Int) < (len2 : Int) := by omega
      go_enter Try.func8, Try.ntmps8
      go_wp2_with fail
      refine (awake_any _).mono ?_
      rintro e w1 ⟨rfl, b1⟩
      have R0_1 := Lib.hid (R0_0.out.up b1)
      have R1_1 := Lib.hid (R1_0.out.up b1)
      have R2_1 := Lib.hid (R2_0.out.up b1)
      have B1 := Lib.hid b1
      clear b1 R0_0 R1_0 R2_0
      go_wp2_with fail
      refine (long_no A0 len0 cap0 A1 len1 cap1 _ (by omega) (by omega)).mono ?_
      rintro e wl ⟨rfl, rfl⟩
      go_wp2_with fail
      refine (awake_any _).mono ?_
      rintro e w2 ⟨rfl, b2⟩
      have R0_2 := Lib.hid (R0_1.out.up b2)
      have R1_2 := Lib.hid (R1_1.out.up b2)
      have R2_2 := Lib.hid (R2_1.out.up b2)
      have B2 := Lib.hid (below_up B1.out b2)
      clear b2 R0_1 R1_1 R2_1 B1
      go_wp2_with fail
      go_ret
      exact ⟨rfl, B2.out⟩
end Go.Proofs.Ytmfokaicfcnhgaa
