/-
  What RangesAsks answers: true.
-/
import Derived.Test.YtmfokaicfcnhgaaLawa
namespace Go.Proofs.Ytmfokaicfcnhgaa
open Go.RowKit
theorem fit_next {m : List R} {k : Nat} {s : R} {x : Int} (hs : m[k]? = some s) : fitV (m.take (k+1)) x = match fitV (m.take k) x with | some a => some a | none => if 1 ≤ x ∧ x ≤ s.2 - s.1 then some s.1 else none := by
  unfold fitV
  by_cases hx : x < 1
  · rw [if_pos hx, if_pos hx]
    rw [if_neg (by omega)]
  · rw [if_neg hx, if_neg hx]
    unfold fitL
    rw [take_snoc m k s hs, List.find?_append]
    cases hf : (m.take k).find? (fun r => decide (x ≤ r.2 - r.1)) with
    | some r => rfl
    | none =>
      by_cases hd : x ≤ s.2 - s.1
      · simp [hd]; omega
      · simp [hd]
set_option maxHeartbeats 4000000 in
set_option maxRecDepth 100000 in
theorem asks_walk (A0 : Option Addr) (len0 cap0 : Nat) (x : Int) (w : World) (l0 : List R) (hl0 : l0.length = len0) (hr0 : Rd w w.heap.size A0 l0) (hI0 : IR l0) (hno0 : A0 = none → len0 = 0 ∧ cap0 = 0) (hm0 : len0 ≤ 9223372036854775807) :
    Calls Try.prog 7 #[.slice A0 len0 cap0, .int .i64 x] w fun e w' => e = .returned (.bool true) ∧ Below w.heap.size w w' := by
  have L0 := Lib.hid hl0; have R0_0 := Lib.hid hr0; have I0 := Lib.hid hI0; have N0 := Lib.hid hno0
  clear hl0 hr0 hI0 hno0
  by_cases h60 : len0 ≤ 60
  · have h60 := h60
    go_enter Try.func7, Try.ntmps7
    go_wp2_with fail
    refine (awake_any _).mono ?_
    rintro e w1 ⟨rfl, b1⟩
    have R0_1 := Lib.hid (R0_0.out.up b1)
    have B1 := Lib.hid b1
    clear b1 R0_0
    go_wp2_with fail
    refine (long_no A0 len0 cap0 none 0 0 _ (by omega) (by omega)).mono ?_
    rintro e wl ⟨rfl, rfl⟩
    go_wp2_with fail
    refine (Lent_any A0 len0 cap0 _ (l0) L0.out R0_1.out (by omega)).mono ?_
    rintro e w2 ⟨⟨g10, c10, rfl, o10⟩, b2⟩
    have hc10 := o10.cap
    unfold maxLen at hc10
    have R10_2 := Lib.hid o10.rd.left
    have R10f_2 := Lib.hid o10.rd
    have R0_2 := Lib.hid (R0_1.out.up b2)
    have B2 := Lib.hid (below_up B1.out b2)
    clear b2 R0_1 B1 o10
    go_wp2_with fail
    refine (Mix_any A0 len0 cap0 none 0 0 0 (.inl rfl) _ (l0) [] L0.out R0_2.out I0.out rfl (Rd.nil _ _ _) ir_nil (by omega) (by omega)).mono ?_
    rintro e w3 ⟨⟨A11, n11, c11, rfl, o11⟩, b3⟩
    rw [mix_nl] at o11
    have L11 := Lib.hid o11.1
    have R11_3 := Lib.hid o11.rd
    have N11 := Lib.hid o11.none
    have h11 : n11 ≤ 60 := by rw [← L11.out]; exact Nat.le_trans (nl_bd (by rw [L0.out]; exact h60)) (by omega)
    have R0_3 := Lib.hid (R0_2.out.up b3)
    have R10_3 := Lib.hid (R10_2.out.up b3)
    have R10f_3 := Lib.hid (R10f_2.out.up b3)
    have B3 := Lib.hid (below_up B2.out b3)
    clear b3 R0_2 R10_2 R10f_2 B2 o11
    go_wp2_with fail
    go_loopw [7, 8, 9, 10] (fun vt va vf vi wr => ∃ (i q : Nat) (at_ : Int) (ok : Bool), i ≤ n11 ∧ vi = .int .i64 i ∧ vt = .int .i64 (tot ((nl l0).take i)) ∧ va = .int .i64 at_ ∧ vf = .bool ok ∧ Hid (fitV ((nl l0).take i) x = if ok = true then some at_ else none) ∧ Hid (ok = false → at_ = 0) ∧ wr = w3.drewN q) (fun _ _ _ vi _ => n11 - (intOf vi).toNat)
    case atStart => exact ⟨0, 0, 0, false, Nat.zero_le _, rfl, rfl, rfl, rfl, Lib.hid (by simp [fitV, fitL]), Lib.hid (fun _ => rfl), rfl⟩
    case round =>
      obtain ⟨i, q, at_, ok, hi, rfl, rfl, rfl, rfl, HF, HZ, rfl⟩ := hrel
      by_cases hlt : i < n11
      · obtain ⟨s, hs⟩ := get_some (nl l0) i (by have := L11.out; omega)
        obtain ⟨b, off, e9, hb', c0, c1⟩ := R11_3.out i s hs
        obtain ⟨s0, s1, s2⟩ := nl_nn I0.out s (List.mem_of_getElem? hs)
        have e1 : tot ((nl l0).take (i+1)) = tot ((nl l0).take i) + (s.2 - s.1) := by rw [take_snoc (nl l0) i s hs, tot_snoc]
        obtain ⟨p0, p1⟩ := tot_bound (right_take (nl_is l0).1 i) (nn_take (nl_nn I0.out) i)
        obtain ⟨p2, p3⟩ := tot_bound (right_take (nl_is l0).1 (i+1)) (nn_take (nl_nn I0.out) (i+1))
        rw [e1] at p2 p3
        have E1 := Lib.hid e1
        have HN := Lib.hid (fit_next (x := x) hs)
        have d0 : (w3.drewN q).cell? ⟨b, off + i * 2, none⟩ = some (.int .i64 s.1) := c0
        have d1 : (w3.drewN q).cell? ⟨b, off + i * 2 + 1, none⟩ = some (.int .i64 s.2) := c1
        have hq : Hid (∃ q', w3.drewN q = w3.drewN q') := Lib.hid ⟨q, rfl⟩
        cases e9
        clear hs e1 c0 c1
        generalize hT : tot ((nl l0).take i) = T at *
        clear hT
        obtain ⟨W, hW⟩ : ∃ W, W = w3.drewN q := ⟨_, rfl⟩
        rw [← hW] at d0 d1
        rw [← hW]
        have HW := Lib.hid hW
        clear hW hq
        have hlti : (i : Int) < (n11 : Int) := by omega
        go_upto_region 9 with fail
        go_cut [7] (fun v wx => v = .int .i64 (T + s.2 - s.1) ∧ ∃ q', wx = W.drewN q')
        case first =>
          by_cases hov : T + s.2 ≤ 9223372036854775807
          · have W1 : IntKind.i64.wrap (T + s.2) = T + s.2 := IntWalk.i64_in _ (by omega)
            have W2 : IntKind.i64.wrap (T + s.2 - s.1) = T + s.2 - s.1 := IntWalk.i64_in _ (by omega)
            go_wp2_with fail
            go_quiet (fail)
            go_wp2_with fail
            go_meet
            exact ⟨rfl, _, rfl⟩
          · have W1 : IntKind.i64.wrap (T + s.2) = T + s.2 - 18446744073709551616 := by rw [IntKind.wrap_i64]; omega
            have W2 : IntKind.i64.wrap (T + s.2 - 18446744073709551616 - s.1) = T + s.2 - s.1 := by rw [IntKind.wrap_i64]; omega
            go_wp2_with fail
            go_quiet (fail)
            go_wp2_with fail
            go_meet
            exact ⟨rfl, _, rfl⟩
        case rest =>
          obtain ⟨rfl, q1, rfl⟩ := hcut
          have d0' : (W.drewN q1).cell? ⟨b, off + i * 2, none⟩ = some (.int .i64 s.1) := d0
          have d1' : (W.drewN q1).cell? ⟨b, off + i * 2 + 1, none⟩ = some (.int .i64 s.2) := d1
          have hVq : ∃ q', W.drewN q1 = w3.drewN q' := ⟨q + q1, by rw [HW.out]; exact World.drewN_drewN ..⟩
          have HVq := Lib.hid hVq
          clear d0 d1 hVq HW
          generalize W.drewN q1 = V at *
          have ET : Hid (T + s.2 - s.1 = tot ((nl l0).take (i+1))) := Lib.hid (by rw [E1.out]; omega)
          generalize T + s.2 - s.1 = T2 at *
          cases ok with
          | true =>
            have HG : Hid (fitV ((nl l0).take (i+1)) x = if true = true then some at_ else none) := Lib.hid (by rw [HN.out, HF.out]; rfl)
            go_wp2_with fail
            go_quiet (fail)
            go_wp2_with fail
            go_roundw
            case rel =>
              obtain ⟨q', hq'⟩ := HVq.out
              exact ⟨i+1, q' + nq, at_, true, by omega, by go_num, by rw [ET.out], rfl, rfl, HG, Lib.hid (fun h => by cases h), by rw [hq']; exact World.drewN_drewN ..⟩
            case measure => simp [intOf]; omega
          | false =>
            have HFN : Hid (fitV ((nl l0).take i) x = none) := Lib.hid (by rw [HF.out]; rfl)
            by_cases hx : 1 ≤ x
            · by_cases hd : x ≤ s.2 - s.1
              · have HG : Hid (fitV ((nl l0).take (i+1)) x = if true = true then some s.1 else none) := Lib.hid (by rw [HN.out, HFN.out]; simp [hx, hd])
                go_wp2_with fail
                go_quiet (fail)
                go_wp2_with fail
                go_roundw
                case rel =>
                  obtain ⟨q', hq'⟩ := HVq.out
                  exact ⟨i+1, q' + nq, s.1, true, by omega, by go_num, by rw [ET.out], rfl, rfl, HG, Lib.hid (fun h => by cases h), by rw [hq']; exact World.drewN_drewN ..⟩
                case measure => simp [intOf]; omega
              · have HG : Hid (fitV ((nl l0).take (i+1)) x = if false = true then some at_ else none) := Lib.hid (by rw [HN.out, HFN.out]; simp [hd])
                have HZ2 := Lib.hid (HZ.out rfl)
                go_wp2_with fail
                go_quiet (fail)
                go_wp2_with fail
                go_roundw
                case rel =>
                  obtain ⟨q', hq'⟩ := HVq.out
                  exact ⟨i+1, q' + nq, at_, false, by omega, by go_num, by rw [ET.out], rfl, rfl, HG, Lib.hid (fun _ => HZ2.out), by rw [hq']; exact World.drewN_drewN ..⟩
                case measure => simp [intOf]; omega
            · have HG : Hid (fitV ((nl l0).take (i+1)) x = if false = true then some at_ else none) := Lib.hid (by rw [HN.out, HFN.out]; simp [hx])
              have HZ2 := Lib.hid (HZ.out rfl)
              have fx : decide (1 ≤ x) = false := by simp; omega
              go_wp2_with fail
              go_quiet (fail)
              go_wp2_with fail
              go_roundw
              case rel =>
                obtain ⟨q', hq'⟩ := HVq.out
                exact ⟨i+1, q' + nq, at_, false, by omega, by go_num, by rw [ET.out], rfl, rfl, HG, Lib.hid (fun _ => HZ2.out), by rw [hq']; exact World.drewN_drewN ..⟩
              case measure => simp [intOf]; omega
      · obtain rfl : i = n11 := by omega
        have e2 : (nl l0).take i = nl l0 := by rw [List.take_of_length_le (Nat.le_of_eq L11.out)]
        rw [e2]
        have HFF : Hid (fitV (nl l0) x = if ok = true then some at_ else none) := Lib.hid (by have := HF.out; rwa [e2] at this)
        clear e2 hlt
        obtain ⟨TT, hTT⟩ : ∃ t, tot (nl l0) = t := ⟨_, rfl⟩
        obtain ⟨Hb, hHb⟩ : ∃ t, hasB l0 x = t := ⟨_, rfl⟩
        rw [hTT]
        have HTT := Lib.hid hTT; have HHb := Lib.hid hHb
        clear hTT hHb
        have R0_4 : Hid (Rd (w3.drewN q) (w3.drewN q).heap.size A0 (l0)) := Lib.hid (R0_3.out.drewN q)
        have R10_4 : Hid (Rd (w3.drewN q) (w3.drewN q).heap.size (some ⟨g10, 0, none⟩) (l0)) := Lib.hid (R10_3.out.drewN q)
        have R10f_4 : Hid (Rd (w3.drewN q) (w3.drewN q).heap.size (some ⟨g10, 0, none⟩) (l0 ++ mk2)) := Lib.hid (R10f_3.out.drewN q)
        have R11_4 : Hid (Rd (w3.drewN q) (w3.drewN q).heap.size A11 (nl (l0))) := Lib.hid (R11_3.out.drewN q)
        have B4 : Hid (Below w.heap.size w (w3.drewN q)) := Lib.hid (belowDrewN B3.out q)
        clear R0_3 R10_3 R10f_3 R11_3 B3
        generalize w3.drewN q = w4 at *
        cases ok with
        | false =>
          have HV : Hid (fitV (nl l0) x = none) := Lib.hid (by rw [HFF.out]; rfl)
          obtain rfl := HZ.out rfl
          go_wp2_with fail
          refine (Fit_any (some ⟨g10, 0, none⟩) len0 c10 x _ l0 L0.out R10_4.out I0.out (by omega)).mono ?_
          rintro e w5 ⟨he, b5⟩
          rw [HV.out] at he
          replace he : e = .returned (.tuple #[.int .i64 0, .bool false]) := he
          subst he
          have R0_5 := Lib.hid (R0_4.out.up b5)
          have R10_5 := Lib.hid (R10_4.out.up b5)
          have R10f_5 := Lib.hid (R10f_4.out.up b5)
          have R11_5 := Lib.hid (R11_4.out.up b5)
          have B5 := Lib.hid (below_up B4.out b5)
          clear b5 R0_4 R10_4 R10f_4 R11_4 B4
          go_wp2_with fail
          refine (Total_any (some ⟨g10, 0, none⟩) len0 c10 _ (l0) L0.out R10_5.out I0.out (by omega)).mono ?_
          rintro e w6 ⟨rfl, b6⟩
          rw [HTT.out]
          have R0_6 := Lib.hid (R0_5.out.up b6)
          have R10_6 := Lib.hid (R10_5.out.up b6)
          have R10f_6 := Lib.hid (R10f_5.out.up b6)
          have R11_6 := Lib.hid (R11_5.out.up b6)
          have B6 := Lib.hid (below_up B5.out b6)
          clear b6 R0_5 R10_5 R10f_5 R11_5 B5
          go_wp2_with fail
          refine (Has_any (some ⟨g10, 0, none⟩) len0 c10 x _ (l0) L0.out R10_6.out (by omega)).mono ?_
          rintro e w7 ⟨rfl, b7⟩
          rw [HHb.out]
          have R0_7 := Lib.hid (R0_6.out.up b7)
          have R10_7 := Lib.hid (R10_6.out.up b7)
          have R10f_7 := Lib.hid (R10f_6.out.up b7)
          have R11_7 := Lib.hid (R11_6.out.up b7)
          have B7 := Lib.hid (below_up B6.out b7)
          clear b7 R0_6 R10_6 R10f_6 R11_6 B6
          go_wp2_with fail
          refine (RefHas_any A0 len0 cap0 x _ l0 L0.out R0_7.out (by omega)).mono ?_
          rintro e wl ⟨rfl, rfl⟩
          rw [HHb.out]
          go_wp2_with fail
          refine (Kept_any (some ⟨g10, 0, none⟩) len0 c10 A0 cap0 _ (l0) L0.out R10f_7.out (by omega) (by omega) R0_7.out).mono ?_
          rintro e w8 ⟨rfl, b8⟩
          have R0_8 := Lib.hid (R0_7.out.up b8)
          have R10_8 := Lib.hid (R10_7.out.up b8)
          have R10f_8 := Lib.hid (R10f_7.out.up b8)
          have R11_8 := Lib.hid (R11_7.out.up b8)
          have B8 := Lib.hid (below_up B7.out b8)
          clear b8 R0_7 R10_7 R10f_7 R11_7 B7
          go_wp2_with fail
          go_ret
          exact ⟨rfl, B8.out⟩
        | true =>
          have HV : Hid (fitV (nl l0) x = some at_) := Lib.hid (by rw [HFF.out]; rfl)
          go_wp2_with fail
          refine (Fit_any (some ⟨g10, 0, none⟩) len0 c10 x _ l0 L0.out R10_4.out I0.out (by omega)).mono ?_
          rintro e w5 ⟨he, b5⟩
          rw [HV.out] at he
          replace he : e = .returned (.tuple #[.int .i64 at_, .bool true]) := he
          subst he
          have R0_5 := Lib.hid (R0_4.out.up b5)
          have R10_5 := Lib.hid (R10_4.out.up b5)
          have R10f_5 := Lib.hid (R10f_4.out.up b5)
          have R11_5 := Lib.hid (R11_4.out.up b5)
          have B5 := Lib.hid (below_up B4.out b5)
          clear b5 R0_4 R10_4 R10f_4 R11_4 B4
          go_wp2_with fail
          refine (Total_any (some ⟨g10, 0, none⟩) len0 c10 _ (l0) L0.out R10_5.out I0.out (by omega)).mono ?_
          rintro e w6 ⟨rfl, b6⟩
          rw [HTT.out]
          have R0_6 := Lib.hid (R0_5.out.up b6)
          have R10_6 := Lib.hid (R10_5.out.up b6)
          have R10f_6 := Lib.hid (R10f_5.out.up b6)
          have R11_6 := Lib.hid (R11_5.out.up b6)
          have B6 := Lib.hid (below_up B5.out b6)
          clear b6 R0_5 R10_5 R10f_5 R11_5 B5
          go_wp2_with fail
          refine (Has_any (some ⟨g10, 0, none⟩) len0 c10 x _ (l0) L0.out R10_6.out (by omega)).mono ?_
          rintro e w7 ⟨rfl, b7⟩
          rw [HHb.out]
          have R0_7 := Lib.hid (R0_6.out.up b7)
          have R10_7 := Lib.hid (R10_6.out.up b7)
          have R10f_7 := Lib.hid (R10f_6.out.up b7)
          have R11_7 := Lib.hid (R11_6.out.up b7)
          have B7 := Lib.hid (below_up B6.out b7)
          clear b7 R0_6 R10_6 R10f_6 R11_6 B6
          go_wp2_with fail
          refine (RefHas_any A0 len0 cap0 x _ l0 L0.out R0_7.out (by omega)).mono ?_
          rintro e wl ⟨rfl, rfl⟩
          rw [HHb.out]
          go_wp2_with fail
          refine (Kept_any (some ⟨g10, 0, none⟩) len0 c10 A0 cap0 _ (l0) L0.out R10f_7.out (by omega) (by omega) R0_7.out).mono ?_
          rintro e w8 ⟨rfl, b8⟩
          have R0_8 := Lib.hid (R0_7.out.up b8)
          have R10_8 := Lib.hid (R10_7.out.up b8)
          have R10f_8 := Lib.hid (R10f_7.out.up b8)
          have R11_8 := Lib.hid (R11_7.out.up b8)
          have B8 := Lib.hid (below_up B7.out b8)
          clear b8 R0_7 R10_7 R10f_7 R11_7 B7
          go_wp2_with fail
          go_ret
          exact ⟨rfl, B8.out⟩
  · have hlong : 60 < len0 := by omega
    go_enter Try.func7, Try.ntmps7
    go_wp2_with fail
    refine (awake_any _).mono ?_
    rintro e w1 ⟨rfl, b1⟩
    have R0_1 := Lib.hid (R0_0.out.up b1)
    have B1 := Lib.hid b1
    clear b1 R0_0
    go_wp2_with fail
    refine (long_yes A0 len0 cap0 none 0 0 _ (.inl (by omega))).mono ?_
    rintro e wl ⟨rfl, rfl⟩
    go_wp2_with fail
    refine (awake_any _).mono ?_
    rintro e w2 ⟨rfl, b2⟩
    have R0_2 := Lib.hid (R0_1.out.up b2)
    have B2 := Lib.hid (below_up B1.out b2)
    clear b2 R0_1 B1
    go_wp2_with fail
    go_ret
    exact ⟨rfl, B2.out⟩
end Go.Proofs.Ytmfokaicfcnhgaa
