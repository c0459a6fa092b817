/-
  That RebaseMoves is true, for all targets, rescued places and lists.
-/
import Derived.Test.YtdpjblepcpjomaaLSmall
import Derived.Test.YtdpjblepcpjomaaLAwake
import Derived.Test.YtdpjblepcpjomaaWRefe
import Derived.Test.YtdpjblepcpjomaaSRefc
namespace Go.Proofs.Ytdpjblepcpjomaa.Rb
open Go.RowKit
theorem move_e (T : List S) (RS : List R) (a : Int) (l : List S) : 0 ≤ moveE T RS a l ∧ moveE T RS a l ≤ 6 := by
  unfold moveE; split
  · split <;> omega
  · omega
set_option maxHeartbeats 1600000 in
set_option maxRecDepth 100000 in
theorem moves_walk (A0 : Option Addr) (len0 cap0 : Nat) (A1 : Option Addr) (len1 cap1 : Nat) (a : Int) (A2 : Option Addr) (len2 cap2 : Nat) (w : World) (T : List S) (RS : List R) (l : List S)
    (hl0 : T.length = len0) (hr0 : Sc.Rd w w.heap.size A0 T) (hn0 : A0 = none → len0 = 0 ∧ cap0 = 0) (hm0 : len0 ≤ 9223372036854775807)
    (hl1 : RS.length = len1) (hr1 : Rd w w.heap.size A1 RS) (hI : IR RS) (hm1 : len1 ≤ 9223372036854775807) (a0 : -9223372036854775808 ≤ a) (a1 : a ≤ 9223372036854775807)
    (hl2 : l.length = len2) (hr2 : Sc.Rd w w.heap.size A2 l) (hn2 : A2 = none → len2 = 0 ∧ cap2 = 0) (hm2 : len2 ≤ 9223372036854775807) :
    Calls Try.prog 4 #[.slice A0 len0 cap0, .slice A1 len1 cap1, .int .i64 a, .slice A2 len2 cap2] w fun e w' => e = .returned (.bool true) ∧ Below w.heap.size w w' := by
  have L0 := Lib.hid hl0; have T_0 := Lib.hid hr0; have N0 := Lib.hid hn0
  have L1 := Lib.hid hl1; have R_0 := Lib.hid hr1; have I := Lib.hid hI
  have L2 := Lib.hid hl2; have X_0 := Lib.hid hr2; have N2 := Lib.hid hn2
  clear hl0 hr0 hn0 hl1 hr1 hI hl2 hr2 hn2
  cases hsT : smallB T with
  | false =>
    go_enter Try.func4, Try.ntmps4
    go_wp2_with fail
    refine (awake_any _).mono ?_
    rintro e w1 ⟨rfl, b1⟩
    have T_1 := Lib.hid (T_0.out.up b1)
    have R_1 := Lib.hid (R_0.out.up b1)
    have X_1 := Lib.hid (X_0.out.up b1)
    have B_1 := Lib.hid (b1)
    clear b1 T_0 R_0 X_0
    go_wp2_with fail
    refine (small_any A0 len0 cap0 _ T L0.out T_1.out (by omega)).mono ?_
    rintro e w2 ⟨rfl, b2⟩
    have T_2 := Lib.hid (T_1.out.up b2)
    have R_2 := Lib.hid (R_1.out.up b2)
    have X_2 := Lib.hid (X_1.out.up b2)
    have B_2 := Lib.hid (below_up B_1.out b2)
    rw [hsT]
    clear b2 T_1 R_1 X_1 B_1
    go_wp2_with fail
    refine (awake_any _).mono ?_
    rintro e w3 ⟨rfl, b3⟩
    have T_3 := Lib.hid (T_2.out.up b3)
    have R_3 := Lib.hid (R_2.out.up b3)
    have X_3 := Lib.hid (X_2.out.up b3)
    have B_3 := Lib.hid (below_up B_2.out b3)
    clear b3 T_2 R_2 X_2 B_2
    go_wp2_with fail
    go_ret
    exact ⟨rfl, B_3.out⟩
  | true =>
    have sT := (small_parts hsT).1
    cases hsX : smallB l with
    | false =>
      go_enter Try.func4, Try.ntmps4
      go_wp2_with fail
      refine (awake_any _).mono ?_
      rintro e w1 ⟨rfl, b1⟩
      have T_1 := Lib.hid (T_0.out.up b1)
      have R_1 := Lib.hid (R_0.out.up b1)
      have X_1 := Lib.hid (X_0.out.up b1)
      have B_1 := Lib.hid (b1)
      clear b1 T_0 R_0 X_0
      go_wp2_with fail
      refine (small_any A0 len0 cap0 _ T L0.out T_1.out (by omega)).mono ?_
      rintro e w2 ⟨rfl, b2⟩
      have T_2 := Lib.hid (T_1.out.up b2)
      have R_2 := Lib.hid (R_1.out.up b2)
      have X_2 := Lib.hid (X_1.out.up b2)
      have B_2 := Lib.hid (below_up B_1.out b2)
      rw [hsT]
      clear b2 T_1 R_1 X_1 B_1
      go_wp2_with fail
      refine (small_any A2 len2 cap2 _ l L2.out X_2.out (by omega)).mono ?_
      rintro e w3 ⟨rfl, b3⟩
      have T_3 := Lib.hid (T_2.out.up b3)
      have R_3 := Lib.hid (R_2.out.up b3)
      have X_3 := Lib.hid (X_2.out.up b3)
      have B_3 := Lib.hid (below_up B_2.out b3)
      rw [hsX]
      clear b3 T_2 R_2 X_2 B_2
      go_wp2_with fail
      refine (awake_any _).mono ?_
      rintro e w4 ⟨rfl, b4⟩
      have T_4 := Lib.hid (T_3.out.up b4)
      have R_4 := Lib.hid (R_3.out.up b4)
      have X_4 := Lib.hid (X_3.out.up b4)
      have B_4 := Lib.hid (below_up B_3.out b4)
      clear b4 T_3 R_3 X_3 B_3
      go_wp2_with fail
      go_ret
      exact ⟨rfl, B_4.out⟩
    | true =>
      have sX := (small_parts hsX).1
      rw [L0.out] at sT
      rw [L2.out] at sX
      by_cases h20 : len1 ≤ 20
      · have d20 : decide (20 < (len1 : Int)) = false := decide_eq_false (by omega)
        go_enter Try.func4, Try.ntmps4
        go_wp2_with fail
        refine (awake_any _).mono ?_
        rintro e w1 ⟨rfl, b1⟩
        have T_1 := Lib.hid (T_0.out.up b1)
        have R_1 := Lib.hid (R_0.out.up b1)
        have X_1 := Lib.hid (X_0.out.up b1)
        have B_1 := Lib.hid (b1)
        clear b1 T_0 R_0 X_0
        go_wp2_with fail
        refine (small_any A0 len0 cap0 _ T L0.out T_1.out (by omega)).mono ?_
        rintro e w2 ⟨rfl, b2⟩
        have T_2 := Lib.hid (T_1.out.up b2)
        have R_2 := Lib.hid (R_1.out.up b2)
        have X_2 := Lib.hid (X_1.out.up b2)
        have B_2 := Lib.hid (below_up B_1.out b2)
        rw [hsT]
        clear b2 T_1 R_1 X_1 B_1
        go_wp2_with fail
        refine (small_any A2 len2 cap2 _ l L2.out X_2.out (by omega)).mono ?_
        rintro e w3 ⟨rfl, b3⟩
        have T_3 := Lib.hid (T_2.out.up b3)
        have R_3 := Lib.hid (R_2.out.up b3)
        have X_3 := Lib.hid (X_2.out.up b3)
        have B_3 := Lib.hid (below_up B_2.out b3)
        rw [hsX]
        clear b3 T_2 R_2 X_2 B_2
        go_wp2_with fail
        refine (Sc.Lent_any A0 len0 cap0 _ T L0.out T_3.out N0.out (by omega)).mono ?_
        rintro e w4 ⟨⟨g4, c4, rfl, o4⟩, b4⟩
        have hc4 := o4.cap
        unfold maxLen at hc4
        have T_4 := Lib.hid (T_3.out.up b4)
        have R_4 := Lib.hid (R_3.out.up b4)
        have X_4 := Lib.hid (X_3.out.up b4)
        have B_4 := Lib.hid (below_up B_3.out b4)
        have LT_4 := Lib.hid (o4.rd)
        clear o4
        clear b4 T_3 R_3 X_3 B_3
        go_wp2_with fail
        refine (Sc.Lent_any A2 len2 cap2 _ l L2.out X_4.out N2.out (by omega)).mono ?_
        rintro e w5 ⟨⟨g5, c5, rfl, o5⟩, b5⟩
        have hc5 := o5.cap
        unfold maxLen at hc5
        have T_5 := Lib.hid (T_4.out.up b5)
        have R_5 := Lib.hid (R_4.out.up b5)
        have X_5 := Lib.hid (X_4.out.up b5)
        have LT_5 := Lib.hid (LT_4.out.up b5)
        have B_5 := Lib.hid (below_up B_4.out b5)
        have LX_5 := Lib.hid (o5.rd)
        clear o5
        clear b5 T_4 R_4 X_4 LT_4 B_4
        go_wp2_with fail
        refine (Lent_any A1 len1 cap1 _ RS L1.out R_5.out (by omega)).mono ?_
        rintro e w6 ⟨⟨g6, c6, rfl, o6⟩, b6⟩
        have hc6 := o6.cap
        unfold maxLen at hc6
        have T_6 := Lib.hid (T_5.out.up b6)
        have R_6 := Lib.hid (R_5.out.up b6)
        have X_6 := Lib.hid (X_5.out.up b6)
        have LT_6 := Lib.hid (LT_5.out.up b6)
        have LX_6 := Lib.hid (LX_5.out.up b6)
        have B_6 := Lib.hid (below_up B_5.out b6)
        have LR_6 := Lib.hid (o6.rd)
        clear o6
        clear b6 T_5 R_5 X_5 LT_5 LX_5 B_5
        go_wp2_with fail
        refine (Move_any (some ⟨g4, 0, none⟩) len0 c4 (some ⟨g6, 0, none⟩) len1 c6 a (some ⟨g5, 0, none⟩) len2 c5 _ T RS l L0.out LT_6.out.left (by omega) L1.out LR_6.out.left I.out (by omega) L2.out LX_6.out.left (by omega) a0 a1).mono ?_
        rintro e w7 ⟨⟨A7, n7, c7, rfl, o7⟩, b7⟩
        have T_7 := Lib.hid (T_6.out.up b7)
        have R_7 := Lib.hid (R_6.out.up b7)
        have X_7 := Lib.hid (X_6.out.up b7)
        have LT_7 := Lib.hid (LT_6.out.up b7)
        have LX_7 := Lib.hid (LX_6.out.up b7)
        have LR_7 := Lib.hid (LR_6.out.up b7)
        have B_7 := Lib.hid (below_up B_6.out b7)
        have M_7 := Lib.hid (o7.rd)
        have K7 := Lib.hid o7.1
        have hc7 := o7.cap
        unfold maxLen at hc7
        clear o7
        clear b7 T_6 R_6 X_6 LT_6 LX_6 LR_6 B_6
        go_wp2_with fail
        refine (refMove_any A0 len0 cap0 A1 len1 cap1 a A2 len2 cap2 _ T RS l L0.out T_7.out (by omega) L1.out R_7.out I.out (by omega) L2.out X_7.out (by omega) a0 a1).mono ?_
        rintro e w8 ⟨⟨A8, n8, c8, rfl, o8⟩, b8⟩
        have T_8 := Lib.hid (T_7.out.up b8)
        have R_8 := Lib.hid (R_7.out.up b8)
        have X_8 := Lib.hid (X_7.out.up b8)
        have LT_8 := Lib.hid (LT_7.out.up b8)
        have LX_8 := Lib.hid (LX_7.out.up b8)
        have LR_8 := Lib.hid (LR_7.out.up b8)
        have M_8 := Lib.hid (M_7.out.up b8)
        have B_8 := Lib.hid (below_up B_7.out b8)
        have W_8 := Lib.hid (o8.rd)
        have K8 := Lib.hid o8.1
        clear o8
        have HE := Lib.hid (move_e T RS a l)
        generalize moveE T RS a l = E at *
        have he := HE.out
        clear HE
        clear b8 T_7 R_7 X_7 LT_7 LX_7 LR_7 M_7 B_7
        go_wp2_with fail
        refine (Sc.Same_true A7 n7 c7 A8 n8 c8 _ (moveR T RS a l) K7.out M_8.out (by omega) (by rw [← K7.out, ← K8.out]) W_8.out).mono ?_
        rintro e w9 ⟨rfl, b9⟩
        have T_9 := Lib.hid (T_8.out.up b9)
        have R_9 := Lib.hid (R_8.out.up b9)
        have X_9 := Lib.hid (X_8.out.up b9)
        have LT_9 := Lib.hid (LT_8.out.up b9)
        have LX_9 := Lib.hid (LX_8.out.up b9)
        have LR_9 := Lib.hid (LR_8.out.up b9)
        have M_9 := Lib.hid (M_8.out.up b9)
        have W_9 := Lib.hid (W_8.out.up b9)
        have B_9 := Lib.hid (below_up B_8.out b9)
        clear b9 T_8 R_8 X_8 LT_8 LX_8 LR_8 M_8 W_8 B_8
        go_wp2_with fail
        refine (Sc.Kept_any (some ⟨g4, 0, none⟩) len0 c4 A0 cap0 _ T L0.out LT_9.out (by omega) (by omega) T_9.out).mono ?_
        rintro e w10 ⟨rfl, b10⟩
        have T_10 := Lib.hid (T_9.out.up b10)
        have R_10 := Lib.hid (R_9.out.up b10)
        have X_10 := Lib.hid (X_9.out.up b10)
        have LT_10 := Lib.hid (LT_9.out.up b10)
        have LX_10 := Lib.hid (LX_9.out.up b10)
        have LR_10 := Lib.hid (LR_9.out.up b10)
        have M_10 := Lib.hid (M_9.out.up b10)
        have W_10 := Lib.hid (W_9.out.up b10)
        have B_10 := Lib.hid (below_up B_9.out b10)
        clear b10 T_9 R_9 X_9 LT_9 LX_9 LR_9 M_9 W_9 B_9
        go_wp2_with fail
        refine (Sc.Kept_any (some ⟨g5, 0, none⟩) len2 c5 A2 cap2 _ l L2.out LX_10.out (by omega) (by omega) X_10.out).mono ?_
        rintro e w11 ⟨rfl, b11⟩
        have T_11 := Lib.hid (T_10.out.up b11)
        have R_11 := Lib.hid (R_10.out.up b11)
        have X_11 := Lib.hid (X_10.out.up b11)
        have LT_11 := Lib.hid (LT_10.out.up b11)
        have LX_11 := Lib.hid (LX_10.out.up b11)
        have LR_11 := Lib.hid (LR_10.out.up b11)
        have M_11 := Lib.hid (M_10.out.up b11)
        have W_11 := Lib.hid (W_10.out.up b11)
        have B_11 := Lib.hid (below_up B_10.out b11)
        clear b11 T_10 R_10 X_10 LT_10 LX_10 LR_10 M_10 W_10 B_10
        go_wp2_with fail
        refine (Kept_any (some ⟨g6, 0, none⟩) len1 c6 A1 cap1 _ RS L1.out LR_11.out (by omega) (by omega) R_11.out).mono ?_
        rintro e w12 ⟨rfl, b12⟩
        have T_12 := Lib.hid (T_11.out.up b12)
        have R_12 := Lib.hid (R_11.out.up b12)
        have X_12 := Lib.hid (X_11.out.up b12)
        have LT_12 := Lib.hid (LT_11.out.up b12)
        have LX_12 := Lib.hid (LX_11.out.up b12)
        have LR_12 := Lib.hid (LR_11.out.up b12)
        have M_12 := Lib.hid (M_11.out.up b12)
        have W_12 := Lib.hid (W_11.out.up b12)
        have B_12 := Lib.hid (below_up B_11.out b12)
        clear b12 T_11 R_11 X_11 LT_11 LX_11 LR_11 M_11 W_11 B_11
        go_wp2_with fail
        go_ret
        exact ⟨rfl, B_12.out⟩
      · have d20 : decide (20 < (len1 : Int)) = true := decide_eq_true (by omega)
        go_enter Try.func4, Try.ntmps4
        go_wp2_with fail
        refine (awake_any _).mono ?_
        rintro e w1 ⟨rfl, b1⟩
        have T_1 := Lib.hid (T_0.out.up b1)
        have R_1 := Lib.hid (R_0.out.up b1)
        have X_1 := Lib.hid (X_0.out.up b1)
        have B_1 := Lib.hid (b1)
        clear b1 T_0 R_0 X_0
        go_wp2_with fail
        refine (small_any A0 len0 cap0 _ T L0.out T_1.out (by omega)).mono ?_
        rintro e w2 ⟨rfl, b2⟩
        have T_2 := Lib.hid (T_1.out.up b2)
        have R_2 := Lib.hid (R_1.out.up b2)
        have X_2 := Lib.hid (X_1.out.up b2)
        have B_2 := Lib.hid (below_up B_1.out b2)
        rw [hsT]
        clear b2 T_1 R_1 X_1 B_1
        go_wp2_with fail
        refine (small_any A2 len2 cap2 _ l L2.out X_2.out (by omega)).mono ?_
        rintro e w3 ⟨rfl, b3⟩
        have T_3 := Lib.hid (T_2.out.up b3)
        have R_3 := Lib.hid (R_2.out.up b3)
        have X_3 := Lib.hid (X_2.out.up b3)
        have B_3 := Lib.hid (below_up B_2.out b3)
        rw [hsX]
        clear b3 T_2 R_2 X_2 B_2
        go_wp2_with fail
        refine (awake_any _).mono ?_
        rintro e w4 ⟨rfl, b4⟩
        have T_4 := Lib.hid (T_3.out.up b4)
        have R_4 := Lib.hid (R_3.out.up b4)
        have X_4 := Lib.hid (X_3.out.up b4)
        have B_4 := Lib.hid (below_up B_3.out b4)
        clear b4 T_3 R_3 X_3 B_3
        go_wp2_with fail
        go_ret
        exact ⟨rfl, B_4.out⟩
end Go.Proofs.Ytdpjblepcpjomaa.Rb
