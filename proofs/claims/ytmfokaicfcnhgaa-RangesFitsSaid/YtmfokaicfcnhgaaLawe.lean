/-
  What RangesFits answers: true.
-/
import Derived.Test.YtmfokaicfcnhgaaLawa
namespace Go.Proofs.Ytmfokaicfcnhgaa
open Go.RowKit
theorem one_ir (a : Int) (h : 0 ≤ a) (h' : a ≤ 9223372036854775807) : IR [(0, a)] := fun r hr => by
  simp only [List.mem_cons, List.not_mem_nil, or_false] at hr
  subst hr; unfold I64; simp only; omega
set_option maxHeartbeats 4000000 in
set_option maxRecDepth 100000 in
theorem fits_walk (A0 : Option Addr) (len0 cap0 : Nat) (x : Int) (w : World) (l0 : List R) (hl0 : l0.length = len0) (hr0 : Rd w w.heap.size A0 l0) (hI0 : IR l0) (hno0 : A0 = none → len0 = 0 ∧ cap0 = 0) (hm0 : len0 ≤ 9223372036854775807) :
    Calls Try.prog 10 #[.slice A0 len0 cap0, .int .i64 x] w fun e w' => e = .returned (.bool true) ∧ Below w.heap.size w w' := by
  have L0 := Lib.hid hl0; have R0_0 := Lib.hid hr0; have I0 := Lib.hid hI0; have N0 := Lib.hid hno0
  clear hl0 hr0 hI0 hno0
  by_cases h60 : len0 ≤ 60
  · have h60 := h60
    go_enter Try.func10, Try.ntmps10
    go_wp2_with fail
    refine (awake_any _).mono ?_
    rintro e w1 ⟨rfl, b1⟩
    have R0_1 := Lib.hid (R0_0.out.up b1)
    have B1 := Lib.hid b1
    clear b1 R0_0
    go_wp2_with fail
    refine (long_no A0 len0 cap0 none 0 0 _ (by omega) (by omega)).mono ?_
    rintro e wl ⟨rfl, rfl⟩
    by_cases hx1 : x < 1
    · go_wp2_with fail
      refine (awake_any _).mono ?_
      rintro e w2 ⟨rfl, b2⟩
      have R0_2 := Lib.hid (R0_1.out.up b2)
      have B2 := Lib.hid (below_up B1.out b2)
      clear b2 R0_1 B1
      go_wp2_with fail
      go_ret
      exact ⟨rfl, B2.out⟩
    by_cases hx2 : 200 < x
    · go_wp2_with fail
      refine (awake_any _).mono ?_
      rintro e w2 ⟨rfl, b2⟩
      have R0_2 := Lib.hid (R0_1.out.up b2)
      have B2 := Lib.hid (below_up B1.out b2)
      clear b2 R0_1 B1
      go_wp2_with fail
      go_ret
      exact ⟨rfl, B2.out⟩
    go_wp2_with fail
    refine (Fit_any A0 len0 cap0 x _ l0 L0.out R0_1.out I0.out (by omega)).mono ?_
    rintro e w2 ⟨he, b2⟩
    have HV : Hid (fitV (nl l0) x = fitL (nl l0) x) := Lib.hid (by unfold fitV; rw [if_neg (by omega)])
    rw [HV.out] at he
    have HE := Lib.hid he
    clear he
    have R0_2 := Lib.hid (R0_1.out.up b2)
    have B2 := Lib.hid (below_up B1.out b2)
    clear b2 R0_1 B1
    cases hfl : fitL (nl l0) x with
    | none =>
      have he : e = .returned (.tuple #[.int .i64 0, .bool false]) := by have := HE.out; rw [hfl] at this; exact this
      subst he
      have HNF := Lib.hid (fit_not (l := l0) (n := x) (by omega) hfl)
      clear hfl
      go_wp2_with fail
      obtain ⟨wq, hwq⟩ : ∃ wq, wq = w2 := ⟨_, rfl⟩
      go_loopw [7] (fun vi wr => ∃ (i q : Nat), i ≤ len0 ∧ vi = .int .i64 i ∧ wr = w2.drewN q) (fun vi _ => len0 - (intOf vi).toNat)
      case atStart => exact ⟨0, 0, Nat.zero_le _, rfl, rfl⟩
      case round =>
        clear hwq
        obtain ⟨i, q, hi, rfl, rfl⟩ := hrel
        by_cases hlt : i < len0
        · obtain ⟨s, hs⟩ := get_some l0 i (by have := L0.out; omega)
          obtain ⟨b, off, e9, hb', c0, c1⟩ := R0_2.out i s hs
          have hns := HNF.out s (List.mem_of_getElem? hs)
          have hI := I0.out s (List.mem_of_getElem? hs)
          obtain ⟨⟨i0, i1⟩, i2, i3⟩ := hI
          cases e9
          clear hs
          by_cases h0 : 0 ≤ s.1
          · have hns2 := hns h0
            have g0 : decide (0 ≤ s.1) = true := by simp; omega
            by_cases h1 : s.1 < s.2
            · have g1 : decide (s.1 < s.2) = true := by simp; omega
              have g2 : decide (x ≤ s.2 - s.1) = false := by simp; omega
              go_wp2_with fail
              go_quiet (fail)
              go_wp2_with fail
              go_roundw
              case rel => exact ⟨i+1, q + nq, by omega, by go_num, rfl⟩
              case measure => simp [intOf]; omega
            · have g1 : decide (s.1 < s.2) = false := by simp; omega
              go_wp2_with fail
              go_quiet (fail)
              go_wp2_with fail
              go_roundw
              case rel => exact ⟨i+1, q + nq, by omega, by go_num, rfl⟩
              case measure => simp [intOf]; omega
          · have g0 : decide (0 ≤ s.1) = false := by simp; omega
            go_wp2_with fail
            go_quiet (fail)
            go_wp2_with fail
            go_roundw
            case rel => exact ⟨i+1, q + nq, by omega, by go_num, rfl⟩
            case measure => simp [intOf]; omega
        · obtain rfl : i = len0 := by omega
          clear hlt
          go_wp2_with fail
          go_ret
          exact ⟨rfl, belowDrewN B2.out q⟩
    | some at_ =>
      have he : e = .returned (.tuple #[.int .i64 at_, .bool true]) := by have := HE.out; rw [hfl] at this; exact this
      subst he
      obtain ⟨f0, f1, f2, f3⟩ := fit_has (l := l0) (n := x) (by omega) hfl
      have hmax : at_ + x ≤ 9223372036854775807 := by
        have := I0.out.in_lt (f1 (at_ + x - 1) (by omega) (by omega))
        omega
      have F1 := Lib.hid f1; have F2 := Lib.hid f2; have F3 := Lib.hid f3
      clear f1 f2 f3 hfl
      go_wp2_with fail
      go_loopw [8] (fun vi wr => ∃ i : Nat, (i : Int) ≤ x ∧ vi = .int .i64 i ∧ Below w2.heap.size w2 wr) (fun vi _ => x.toNat - (intOf vi).toNat)
      case atStart => exact ⟨0, by omega, rfl, Below.refl _ _⟩
      case round =>
        obtain ⟨i, hi, rfl, hb⟩ := hrel
        have HB := Lib.hid hb
        clear hb
        by_cases hlt : (i : Int) < x
        · have HH : Hid (hasB l0 (at_ + i) = true) := Lib.hid (hasB_of ⟨by omega, F1.out _ (by omega) (by omega)⟩)
          go_wp2_with fail
          refine (Has_any A0 len0 cap0 (at_ + i) _ l0 L0.out (R0_2.out.up HB.out) (by omega)).mono ?_
          rintro e wn ⟨rfl, bn⟩
          rw [HH.out]
          have HB2 := Lib.hid (below_up HB.out bn)
          clear bn
          go_wp2_with fail
          go_roundw
          case rel => exact ⟨i+1, by omega, by go_num, HB2.out⟩
          case measure => simp [intOf]; omega
        · obtain rfl : x = (i : Int) := by omega
          have HR9 : Hid (Rd wr wr.heap.size A0 l0) := Lib.hid (R0_2.out.up HB.out)
          have HB9 : Hid (Below w.heap.size w wr) := Lib.hid (below_up B2.out HB.out)
          clear HB R0_2 B2 hlt
          go_wp2_with fail
          have HL := Lib.hid (rd_new wr [(0, at_)] #[.int .i64 0, .int .i64 at_] rfl _ rfl)
          have hba : Hid (Below wr.heap.size wr (wr.alloc (.cells #[.int .i64 0, .int .i64 at_] 29))) := Lib.hid ((Below.refl _ _).alloc (Nat.le_refl _) _)
          have HR10 := Lib.hid (HR9.out.up hba.out); have HB10 := Lib.hid (below_up HB9.out hba.out)
          clear HR9 HB9 hba
          generalize wr.alloc (.cells #[.int .i64 0, .int .i64 at_] 29) = wa at *
          refine (Both_any A0 len0 cap0 _ 1 1 _ l0 [(0, at_)] L0.out HR10.out I0.out rfl HL.out (one_ir at_ f0 (by omega)) (by omega) (by omega)).mono ?_
          rintro e wb ⟨⟨A9, n9, c9, rfl, o9⟩, bb⟩
          have L9 := Lib.hid o9.1
          have R9 := Lib.hid o9.rd
          have h9 : n9 ≤ 61 := by rw [← L9.out]; exact both_bd (x := 60) (y := 1) (by rw [L0.out]; exact h60) (Nat.le_refl _)
          have HR11 := Lib.hid (HR10.out.up bb); have HB11 := Lib.hid (below_up HB10.out bb)
          clear o9 bb HR10 HB10 HL
          have HV2 : Hid (fitV (nl (bothR l0 [(0, at_)])) (i : Int) = none) := Lib.hid (by rw [right_nl (bothR_is _ _).1]; unfold fitV; rw [if_neg (by omega)]; exact F3.out)
          go_wp2_with fail
          refine (Fit_any A9 n9 c9 _ _ (bothR l0 [(0, at_)]) L9.out R9.out (bothR_nn (b := [(0, at_)]) I0.out).ir (by omega)).mono ?_
          rintro e wc ⟨he, bc⟩
          rw [HV2.out] at he
          replace he : e = .returned (.tuple #[.int .i64 0, .bool false]) := he
          subst he
          have HR12 := Lib.hid (HR11.out.up bc); have HB12 := Lib.hid (below_up HB11.out bc)
          have HH2 : Hid (hasB l0 (at_ - 1) = false) := Lib.hid (hasB_not F2.out)
          clear bc HR11 HB11
          go_wp2_with fail
          refine (Has_any A0 len0 cap0 (at_ - 1) _ l0 L0.out HR12.out (by omega)).mono ?_
          rintro e wd ⟨rfl, bd⟩
          rw [HH2.out]
          have HB13 := Lib.hid (below_up HB12.out bd)
          clear bd
          go_wp2_with fail
          go_ret
          exact ⟨rfl, HB13.out⟩
  · have hlong : 60 < len0 := by omega
    go_enter Try.func10, Try.ntmps10
    go_wp2_with fail
    refine (awake_any _).mono ?_
    rintro e w1 ⟨rfl, b1⟩
    have R0_1 := Lib.hid (R0_0.out.up b1)
    have B1 := Lib.hid b1
    clear b1 R0_0
    go_wp2_with fail
    refine (long_yes A0 len0 cap0 none 0 0 _ (.inl (by omega))).mono ?_
    rintro e wl ⟨rfl, rfl⟩
    go_wp2_with fail
    refine (awake_any _).mono ?_
    rintro e w2 ⟨rfl, b2⟩
    have R0_2 := Lib.hid (R0_1.out.up b2)
    have B2 := Lib.hid (below_up B1.out b2)
    clear b2 R0_1 B1
    go_wp2_with fail
    go_ret
    exact ⟨rfl, B2.out⟩
end Go.Proofs.Ytmfokaicfcnhgaa
