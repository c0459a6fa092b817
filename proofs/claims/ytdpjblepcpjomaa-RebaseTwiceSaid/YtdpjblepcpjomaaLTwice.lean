/-
  That RebaseTwice is true, for all files, targets and lists of parts.
-/
import Derived.Test.YtdpjblepcpjomaaLFacts
import Derived.Test.YtdpjblepcpjomaaLWhole
namespace Go.Proofs.Ytdpjblepcpjomaa.Rb
open Go.RowKit
/-- An append whose run is told by a hypothesis: the walk does not lay it open. -/
def appTold (ts : Array TypeId) (ty : TypeId) (vs : Array Value) : Sem Value := Builtin.append_ ts ty vs
theorem append_told (ts : Array TypeId) (ty : TypeId) (vs : Array Value) : Builtin.append_ ts ty vs = appTold ts ty vs := rfl
attribute [local go_sem ↓] append_told
set_option maxHeartbeats 1600000 in
set_option maxRecDepth 100000 in
theorem twice_walk (Ao At : Option Addr) (N co M ct : Nat) (A1 : Option Addr) (len1 cap1 : Nat) (A2 : Option Addr) (len2 cap2 : Nat) (w : World) (p1 p2 : List S)
    (hl1 : p1.length = len1) (hr1 : Sc.Rd w w.heap.size A1 p1) (hm1 : len1 ≤ 9223372036854775807) (hw1 : ∀ s ∈ p1, -9223372036854775808 ≤ s.src ∧ s.src ≤ 9223372036854775807 ∧ -9223372036854775808 ≤ s.at_ ∧ s.at_ ≤ 9223372036854775807 ∧ -9223372036854775808 ≤ s.len ∧ s.len ≤ 9223372036854775807)
    (hl2 : p2.length = len2) (hr2 : Sc.Rd w w.heap.size A2 p2) (hm2 : len2 ≤ 9223372036854775807) (hw2 : ∀ s ∈ p2, -9223372036854775808 ≤ s.src ∧ s.src ≤ 9223372036854775807 ∧ -9223372036854775808 ≤ s.at_ ∧ s.at_ ≤ 9223372036854775807 ∧ -9223372036854775808 ≤ s.len ∧ s.len ≤ 9223372036854775807)
    (_hN9 : N ≤ 9223372036854775807) (_hM9 : M ≤ 9223372036854775807) :
    Calls Try.prog 7 #[.agg #[.slice Ao N co, .slice At M ct], .slice A1 len1 cap1, .slice A2 len2 cap2] w fun e w' => e = .returned (.bool true) ∧ Below w.heap.size w w' := by
  have L1 := Lib.hid hl1; have P1_0 := Lib.hid hr1; have W1 := Lib.hid hw1
  have L2 := Lib.hid hl2; have P2_0 := Lib.hid hr2; have W2 := Lib.hid hw2
  obtain ⟨i0, hi, hz0, hz1, hz2⟩ := info_parts Sc.info31
  clear hl1 hr1 hw1 hl2 hr2 hw2
  by_cases hN : N ≤ 2000
  · have dN : decide (2000 < (N : Int)) = false := decide_eq_false (by omega)
    by_cases hM : M ≤ 2000
    · have dM : decide (2000 < (M : Int)) = false := decide_eq_false (by omega)
      go_enter Try.func7, Try.ntmps7
      go_wp2_with fail
      have b1 : Below w.heap.size w (w.alloc (.cells #[.slice Ao N co, .slice At M ct] 43)) := (Below.refl _ _).alloc (Nat.le_refl _) _
      have F_1 := Lib.hid (FAt.new w (.slice Ao N co) (.slice At M ct) 43)
      have P1_1 := Lib.hid (P1_0.out.up b1)
      have P2_1 := Lib.hid (P2_0.out.up b1)
      have B_1 := Lib.hid (b1)
      clear b1 P1_0 P2_0
      have hy1 : (w.alloc (.cells #[.slice Ao N co, .slice At M ct] 43)).heap.size = w.heap.size + 1 := by simp
      generalize w.alloc (.cells #[.slice Ao N co, .slice At M ct] 43) = w1 at *
      refine (awake_any _).mono ?_
      rintro e w2 ⟨rfl, b2⟩
      have P1_2 := Lib.hid (P1_1.out.up b2)
      have P2_2 := Lib.hid (P2_1.out.up b2)
      have F_2 := Lib.hid (F_1.out.up b2)
      have B_2 := Lib.hid (below_up B_1.out b2)
      have c0 := F_2.out.c0
      have c1 := F_2.out.c1
      clear b2 P1_1 P2_1 F_1 B_1
      go_wp2_with fail
      refine (list_any A1 len1 cap1 N M _ p1 L1.out P1_2.out hm1 W1.out hN hM).mono ?_
      rintro e w3 ⟨⟨T, AT, nT, cT, rfl, hT1, fT, oT⟩, b3⟩
      clear c0 c1
      have P1_3 := Lib.hid (P1_2.out.up b3)
      have P2_3 := Lib.hid (P2_2.out.up b3)
      have F_3 := Lib.hid (F_2.out.up b3)
      have B_3 := Lib.hid (below_up B_2.out b3)
      have RT_3 := Lib.hid (oT.rd)
      have KT := Lib.hid oT.1
      have FT := Lib.hid fT
      have c0 := F_3.out.c0
      have c1 := F_3.out.c1
      clear oT fT
      clear b3 P1_2 P2_2 F_2 B_2
      go_wp2_with fail
      clear P1_3
      refine (list_any A2 len2 cap2 N M _ p2 L2.out P2_3.out hm2 W2.out hN hM).mono ?_
      rintro e w4 ⟨⟨X, AX, nX, cX, rfl, hX1, fX, oX⟩, b4⟩
      clear c0 c1
      have P2_4 := Lib.hid (P2_3.out.up b4)
      have F_4 := Lib.hid (F_3.out.up b4)
      have RT_4 := Lib.hid (RT_3.out.up b4)
      have B_4 := Lib.hid (below_up B_3.out b4)
      have RX_4 := Lib.hid (oX.rd)
      have KX := Lib.hid oX.1
      have HW := tw_ok hN hM FT.out (by rw [KT.out]; exact hT1) fX (by rw [oX.1]; exact hX1)
      clear oX fX FT
      have QT := Lib.hid HW.mayT; have QX := Lib.hid HW.mayX; have QR := Lib.hid HW.res; have QV := Lib.hid HW.move; have QM := Lib.hid HW.mayM; have QL := Lib.hid HW.mlen; have QO := Lib.hid HW.mayO; have QN := Lib.hid HW.none_; have QA := Lib.hid HW.again
      clear HW
      have c1 := F_4.out.c1
      have hXe : X.length = nX := KX.out
      clear b4 P2_3 F_3 RT_3 B_3
      go_wp2_with fail
      clear P2_4
      clear c1
      have b5 : Below w4.heap.size w4 (w4.alloc (.cells #[.slice AX nX cX] 22)) := (Below.refl _ _).alloc (Nat.le_refl _) _
      have RL_5 := Lib.hid (by have h := rdl_one w4 AX cX X _ rfl RX_4.out; rw [hXe] at h; exact h)
      have F_5 := Lib.hid (F_4.out.up b5)
      have RT_5 := Lib.hid (RT_4.out.up b5)
      have RX_5 := Lib.hid (RX_4.out.up b5)
      have B_5 := Lib.hid (below_up B_4.out b5)
      clear b5 F_4 RT_4 RX_4 B_4
      have hy5 : (w4.alloc (.cells #[.slice AX nX cX] 22)).heap.size = w4.heap.size + 1 := by simp
      generalize w4.alloc (.cells #[.slice AX nX cX] 22) = w5 at *
      refine (Rescue_any AT nT cT (some ⟨w4.heap.size, 0, none⟩) 1 1 _ T [X] KT.out RT_5.out (by omega) rfl RL_5.out (by omega) (by simp; omega)).mono ?_
      rintro e w6 ⟨⟨A5, n5, c5, rfl, o5⟩, b6⟩
      have F_6 := Lib.hid (F_5.out.up b6)
      have RT_6 := Lib.hid (RT_5.out.up b6)
      have RX_6 := Lib.hid (RX_5.out.up b6)
      have B_6 := Lib.hid (below_up B_5.out b6)
      have R5_6 := Lib.hid (by have h := o5.rd; rw [rescueL_yes QT.out (fun l hl => by simp at hl; subst hl; exact QX.out)] at h; exact h)
      have hls : ∀ l ∈ [X], MayX l := fun l hl => by simp at hl; subst hl; exact QX.out
      rw [rescueE_yes QT.out hls]
      rw [rescueL_yes QT.out hls] at o5
      have K5 := Lib.hid o5.1
      have hn5 : n5 ≤ 100000 := by have := QR.out.len_; have := K5.out; omega
      clear o5 hls RL_5
      have c1 := F_6.out.c1
      clear b6 F_5 RT_5 RX_5 B_5
      go_wp2_with fail
      refine (Move_any AT nT cT A5 n5 c5 M AX nX cX _ T (rescueR T [X]) X KT.out RT_6.out (by omega) K5.out R5_6.out QR.out.ir hn5 hXe RX_6.out (by omega) (by omega) (by omega)).mono ?_
      rintro e w7 ⟨⟨A6, n6, c6, rfl, o6⟩, b7⟩
      clear c1
      have F_7 := Lib.hid (F_6.out.up b7)
      have RT_7 := Lib.hid (RT_6.out.up b7)
      have RX_7 := Lib.hid (RX_6.out.up b7)
      have R5_7 := Lib.hid (R5_6.out.up b7)
      have B_7 := Lib.hid (below_up B_6.out b7)
      have RM_7 := Lib.hid (by have h := o6.rd; rw [QV.out.2] at h; exact h)
      have KM_7 := Lib.hid (by have h := o6.1; rw [QV.out.2] at h; exact h)
      rw [QV.out.1]
      clear o6
      generalize moveL (Sc.bts T) (rescueR T [X]) M (Sc.bts X) = m at *
      clear QV K5 QR
      clear b7 F_6 RT_6 RX_6 R5_6 B_6
      go_wp2_with fail
      clear RX_7
      clear R5_7
      refine (Sc.refSize_any AT nT cT _ T KT.out RT_7.out QT.out.2.1 QT.out.2.2).mono ?_
      rintro e w8 ⟨rfl, b8⟩
      have F_8 := Lib.hid (F_7.out.up b8)
      have RT_8 := Lib.hid (RT_7.out.up b8)
      have RM_8 := Lib.hid (RM_7.out.up b8)
      have B_8 := Lib.hid (below_up B_7.out b8)
      clear b8 F_7 RT_7 RM_7 B_7
      clear RT_8
      clear F_8
      have hs8 : w8.heap.size = w8.heap.size := rfl
      by_cases h0 : 0 < Sc.tot T
      · have d0 : decide (0 < Sc.tot T) = true := decide_eq_true h0
        have eO : ownS (Sc.tot T) = [⟨0, 0, Sc.tot T⟩] := by unfold ownS; rw [if_pos h0]
        have EO := Lib.hid eO
        clear eO
        obtain ⟨v', w9, hrun, hown', hgrow, _⟩ := run_append_own (P := Try.prog) (w8.alloc (.cells #[.int .i64 0, .int .i64 0, .int .i64 (Sc.tot T)] 56)) w8.heap.size 22 22 56 i0 _ 3 24 Try.underlying22 hi hz0 hz1 hz2 rfl (by decide) (.slice none 0 0) 0 (Sc.cells []) ((Sc.Own.nil w8 w8.heap.size).alloc _).2 ⟨w8.heap.size, 0, none⟩ 1 1 (Sc.cells [⟨0, 0, Sc.tot T⟩]) rfl (Sc.new_one _ ⟨0, 0, Sc.tot T⟩ _ rfl) (Sc.cells_one_cell _) (by unfold maxLen; omega) (by omega) (by simp)
        obtain ⟨⟨AO, cO, hv, hown2⟩, _, b9, _, _⟩ := Sc.app_step (s' := ⟨0, 0, Sc.tot T⟩) (Sc.Own.nil w8 w8.heap.size) (Below.refl _ _) (Nat.le_refl _) ((Below.refl _ _).alloc (Nat.le_refl _) _) hown' hgrow
        have RM_9 := Lib.hid (RM_8.out.up b9)
        have B_9 := Lib.hid (below_up B_8.out b9)
        obtain ⟨nO, hnO⟩ : ∃ nO : Nat, nO = 0 + 1 := ⟨_, rfl⟩
        rw [List.nil_append, ← EO.out, ← hnO] at hown2
        rw [← hnO] at hv
        rw [hv] at hrun
        have hrun' : (appTold #[22, 22] 22 #[.slice none 0 0, .slice (some ⟨w8.heap.size, 0, none⟩) 1 1]).run Try.prog (w8.alloc (.cells #[.int .i64 0, .int .i64 0, .int .i64 (Sc.tot T)] 56)) = .ok (.slice AO nO cO) w9 := hrun
        have KO := Lib.hid hown2.1
        have RO_9 := Lib.hid hown2.rd
        have hO9 : nO ≤ 300 := by omega
        clear hrun hown' hgrow hown2 hv hnO b9 RM_8 B_8
        go_wp2_with fail
        have hMe : m.length = n6 := KM_7.out
        have b10 : Below w9.heap.size w9 (w9.alloc (.cells #[.slice A6 n6 c6] 22)) := (Below.refl _ _).alloc (Nat.le_refl _) _
        have RL_10 := Lib.hid (by have h := rdl_one w9 A6 c6 m _ rfl RM_9.out; rw [hMe] at h; exact h)
        have RM_10 := Lib.hid (RM_9.out.up b10)
        have RO_10 := Lib.hid (RO_9.out.up b10)
        have B_10 := Lib.hid (below_up B_9.out b10)
        clear b10 RM_9 RO_9 B_9
        have hy10 : (w9.alloc (.cells #[.slice A6 n6 c6] 22)).heap.size = w9.heap.size + 1 := by simp
        generalize w9.alloc (.cells #[.slice A6 n6 c6] 22) = w10 at *
        refine (Rescue_any AO nO cO (some ⟨w9.heap.size, 0, none⟩) 1 1 _ (ownS (Sc.tot T)) [m] KO.out RO_10.out (by omega) rfl RL_10.out (by omega) (by simp; have := QL.out; omega)).mono ?_
        rintro e w11 ⟨⟨A9, n9, c9, rfl, o9⟩, b11⟩
        have RM_11 := Lib.hid (RM_10.out.up b11)
        have RO_11 := Lib.hid (RO_10.out.up b11)
        have B_11 := Lib.hid (below_up B_10.out b11)
        have hls : ∀ l ∈ [m], MayX l := fun l hl => by simp at hl; subst hl; exact QM.out
        rw [rescueE_yes QO.out hls]
        rw [QN.out] at o9
        obtain rfl : n9 = 0 := o9.1.symm
        clear o9 hls RL_10
        clear b11 RM_10 RO_10 B_10
        go_wp2_with fail
        refine (Move_any AO nO cO none 0 0 0 A6 n6 c6 _ (ownS (Sc.tot T)) [] m KO.out RO_11.out hO9 rfl (Rd.nil _ _ _) (fun r hr => absurd hr List.not_mem_nil) (by omega) hMe RM_11.out (by have := QL.out; omega) (by omega) (by omega)).mono ?_
        rintro e w12 ⟨⟨A10, n10, c10, rfl, o10⟩, b12⟩
        have RM_12 := Lib.hid (RM_11.out.up b12)
        have RO_12 := Lib.hid (RO_11.out.up b12)
        have B_12 := Lib.hid (below_up B_11.out b12)
        have RG_12 := Lib.hid (by have h := o10.rd; rw [QA.out.2] at h; exact h)
        rw [QA.out.1]
        rw [QA.out.2] at o10
        have K10 := Lib.hid o10.1
        clear o10
        clear b12 RM_11 RO_11 B_11
        go_wp2_with fail
        refine (Sc.Same_true A10 n10 c10 A6 n6 c6 _ m K10.out RG_12.out (by have := QL.out; have := K10.out; omega) (by rw [← K10.out]; exact hMe.symm) RM_12.out).mono ?_
        rintro e w13 ⟨rfl, b13⟩
        have RM_13 := Lib.hid (RM_12.out.up b13)
        have RO_13 := Lib.hid (RO_12.out.up b13)
        have RG_13 := Lib.hid (RG_12.out.up b13)
        have B_13 := Lib.hid (below_up B_12.out b13)
        clear b13 RM_12 RO_12 RG_12 B_12
        go_wp2_with fail
        go_ret
        exact ⟨rfl, B_13.out⟩
      · have d0 : decide (0 < Sc.tot T) = false := decide_eq_false h0
        have eO : ownS (Sc.tot T) = [] := by unfold ownS; rw [if_neg h0]
        have KO : Hid ((ownS (Sc.tot T)).length = 0) := Lib.hid (by rw [eO]; rfl)
        have RO_8 : Hid (Sc.Rd w8 w8.heap.size none (ownS (Sc.tot T))) := Lib.hid (by rw [eO]; exact Sc.Rd.nil _ _ _)
        have hO9 : 0 ≤ 300 := by omega
        clear eO
        go_wp2_with fail
        have hMe : m.length = n6 := KM_7.out
        have b9 : Below w8.heap.size w8 (w8.alloc (.cells #[.slice A6 n6 c6] 22)) := (Below.refl _ _).alloc (Nat.le_refl _) _
        have RL_9 := Lib.hid (by have h := rdl_one w8 A6 c6 m _ rfl RM_8.out; rw [hMe] at h; exact h)
        have RM_9 := Lib.hid (RM_8.out.up b9)
        have RO_9 := Lib.hid (RO_8.out.up b9)
        have B_9 := Lib.hid (below_up B_8.out b9)
        clear b9 RM_8 RO_8 B_8
        have hy9 : (w8.alloc (.cells #[.slice A6 n6 c6] 22)).heap.size = w8.heap.size + 1 := by simp
        generalize w8.alloc (.cells #[.slice A6 n6 c6] 22) = w9 at *
        refine (Rescue_any none 0 0 (some ⟨w8.heap.size, 0, none⟩) 1 1 _ (ownS (Sc.tot T)) [m] KO.out RO_9.out (by omega) rfl RL_9.out (by omega) (by simp; have := QL.out; omega)).mono ?_
        rintro e w10 ⟨⟨A9, n9, c9, rfl, o9⟩, b10⟩
        have RM_10 := Lib.hid (RM_9.out.up b10)
        have RO_10 := Lib.hid (RO_9.out.up b10)
        have B_10 := Lib.hid (below_up B_9.out b10)
        have hls : ∀ l ∈ [m], MayX l := fun l hl => by simp at hl; subst hl; exact QM.out
        rw [rescueE_yes QO.out hls]
        rw [QN.out] at o9
        obtain rfl : n9 = 0 := o9.1.symm
        clear o9 hls RL_9
        clear b10 RM_9 RO_9 B_9
        go_wp2_with fail
        refine (Move_any none 0 0 none 0 0 0 A6 n6 c6 _ (ownS (Sc.tot T)) [] m KO.out RO_10.out hO9 rfl (Rd.nil _ _ _) (fun r hr => absurd hr List.not_mem_nil) (by omega) hMe RM_10.out (by have := QL.out; omega) (by omega) (by omega)).mono ?_
        rintro e w11 ⟨⟨A10, n10, c10, rfl, o10⟩, b11⟩
        have RM_11 := Lib.hid (RM_10.out.up b11)
        have RO_11 := Lib.hid (RO_10.out.up b11)
        have B_11 := Lib.hid (below_up B_10.out b11)
        have RG_11 := Lib.hid (by have h := o10.rd; rw [QA.out.2] at h; exact h)
        rw [QA.out.1]
        rw [QA.out.2] at o10
        have K10 := Lib.hid o10.1
        clear o10
        clear b11 RM_10 RO_10 B_10
        go_wp2_with fail
        refine (Sc.Same_true A10 n10 c10 A6 n6 c6 _ m K10.out RG_11.out (by have := QL.out; have := K10.out; omega) (by rw [← K10.out]; exact hMe.symm) RM_11.out).mono ?_
        rintro e w12 ⟨rfl, b12⟩
        have RM_12 := Lib.hid (RM_11.out.up b12)
        have RO_12 := Lib.hid (RO_11.out.up b12)
        have RG_12 := Lib.hid (RG_11.out.up b12)
        have B_12 := Lib.hid (below_up B_11.out b12)
        clear b12 RM_11 RO_11 RG_11 B_11
        go_wp2_with fail
        go_ret
        exact ⟨rfl, B_12.out⟩
    · have dM : decide (2000 < (M : Int)) = true := decide_eq_true (by omega)
      go_enter Try.func7, Try.ntmps7
      go_wp2_with fail
      have b1 : Below w.heap.size w (w.alloc (.cells #[.slice Ao N co, .slice At M ct] 43)) := (Below.refl _ _).alloc (Nat.le_refl _) _
      have F_1 := Lib.hid (FAt.new w (.slice Ao N co) (.slice At M ct) 43)
      have P1_1 := Lib.hid (P1_0.out.up b1)
      have P2_1 := Lib.hid (P2_0.out.up b1)
      have B_1 := Lib.hid (b1)
      clear b1 P1_0 P2_0
      have hy1 : (w.alloc (.cells #[.slice Ao N co, .slice At M ct] 43)).heap.size = w.heap.size + 1 := by simp
      generalize w.alloc (.cells #[.slice Ao N co, .slice At M ct] 43) = w1 at *
      refine (awake_any _).mono ?_
      rintro e w2 ⟨rfl, b2⟩
      have P1_2 := Lib.hid (P1_1.out.up b2)
      have P2_2 := Lib.hid (P2_1.out.up b2)
      have F_2 := Lib.hid (F_1.out.up b2)
      have B_2 := Lib.hid (below_up B_1.out b2)
      have c0 := F_2.out.c0
      have c1 := F_2.out.c1
      clear b2 P1_1 P2_1 F_1 B_1
      go_wp2_with fail
      refine (awake_any _).mono ?_
      rintro e w3 ⟨rfl, b3⟩
      clear c0 c1
      have P1_3 := Lib.hid (P1_2.out.up b3)
      have P2_3 := Lib.hid (P2_2.out.up b3)
      have F_3 := Lib.hid (F_2.out.up b3)
      have B_3 := Lib.hid (below_up B_2.out b3)
      clear b3 P1_2 P2_2 F_2 B_2
      go_wp2_with fail
      go_ret
      exact ⟨rfl, B_3.out⟩
  · have dN : decide (2000 < (N : Int)) = true := decide_eq_true (by omega)
    go_enter Try.func7, Try.ntmps7
    go_wp2_with fail
    have b1 : Below w.heap.size w (w.alloc (.cells #[.slice Ao N co, .slice At M ct] 43)) := (Below.refl _ _).alloc (Nat.le_refl _) _
    have F_1 := Lib.hid (FAt.new w (.slice Ao N co) (.slice At M ct) 43)
    have P1_1 := Lib.hid (P1_0.out.up b1)
    have P2_1 := Lib.hid (P2_0.out.up b1)
    have B_1 := Lib.hid (b1)
    clear b1 P1_0 P2_0
    have hy1 : (w.alloc (.cells #[.slice Ao N co, .slice At M ct] 43)).heap.size = w.heap.size + 1 := by simp
    generalize w.alloc (.cells #[.slice Ao N co, .slice At M ct] 43) = w1 at *
    refine (awake_any _).mono ?_
    rintro e w2 ⟨rfl, b2⟩
    have P1_2 := Lib.hid (P1_1.out.up b2)
    have P2_2 := Lib.hid (P2_1.out.up b2)
    have F_2 := Lib.hid (F_1.out.up b2)
    have B_2 := Lib.hid (below_up B_1.out b2)
    have c0 := F_2.out.c0
    have c1 := F_2.out.c1
    clear b2 P1_1 P2_1 F_1 B_1
    go_wp2_with fail
    refine (awake_any _).mono ?_
    rintro e w3 ⟨rfl, b3⟩
    clear c0 c1
    have P1_3 := Lib.hid (P1_2.out.up b3)
    have P2_3 := Lib.hid (P2_2.out.up b3)
    have F_3 := Lib.hid (F_2.out.up b3)
    have B_3 := Lib.hid (below_up B_2.out b3)
    clear b3 P1_2 P2_2 F_2 B_2
    go_wp2_with fail
    go_ret
    exact ⟨rfl, B_3.out⟩
end Go.Proofs.Ytdpjblepcpjomaa.Rb
