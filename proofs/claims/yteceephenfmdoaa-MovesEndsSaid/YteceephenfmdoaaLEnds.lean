/-
  MovesEnds' law: a target that is the original with bytes of the tail behind, or its beginning, moves no block ahead of the last one that stays.
-/
import Derived.Test.YteceephenfmdoaaLMakes
import Derived.Test.YteceephenfmdoaaLEndsp
namespace Go.Proofs.Yteceephenfmdoaa
open Go.RowKit
open Sc (RdB OwnB bcells RdBL)
attribute [local go_sem ↓] Sc.append_told
/-- An append to a row of the call's own, told. -/
theorem told_own (W : World) (base : Nat) (A : Option Addr) (n c : Nat) (L : List Int) (hown : OwnB W base A n c L) (A2 : Option Addr) (m c2 : Nat) (K : List Int) (hK : K.length = m) (hr : RdB W W.heap.size A2 K) (hno : A2 = none → m = 0 ∧ c2 = 0) (hs : n + m ≤ 1000000) (hbase : base ≤ W.heap.size) :
    ∃ A' c' w2, (Sc.appTold #[22, 22] 22 #[.slice A n c, .slice A2 m c2]).run Try.prog W = .ok (.slice A' (n + m) c') w2 ∧ OwnB w2 base A' (n + m) c' (L ++ K) ∧ Below base W w2 := by
  obtain ⟨i0, hi, hz0, hz1, hz2⟩ := info_parts Sc.info5
  cases A2 with
  | none =>
    obtain ⟨rfl, rfl⟩ := hno rfl
    obtain rfl := List.eq_nil_of_length_eq_zero hK
    have hrun := run_append_owned_none (P := Try.prog) (w := W) base 22 22 5 i0 1 Try.underlying22 hi (.slice A n c) n (bcells L) hown.2
    rw [List.append_nil]
    exact ⟨A, c, W, hrun, hown, Below.refl _ _⟩
  | some ad =>
    obtain ⟨v', w', hrun, h2, h3, _⟩ := run_append_own (P := Try.prog) W base 22 22 5 i0 _ 1 1 Try.underlying22 hi hz0 hz1 hz2 rfl (by decide) (.slice A n c) n (bcells L) hown.2 ad m c2 (bcells K) (by rw [bcells, List.length_map, hK, Nat.mul_one]) (hr.cells' ad rfl) (Sc.bcells_one _) (by unfold maxLen; omega) (by omega) hbase
    obtain ⟨⟨A'', c'', hv, ho⟩, hb, _, _, _⟩ := Sc.appB_step hown (Below.refl base W) hbase (Below.refl _ _) hK h2 h3
    rw [hv] at hrun
    exact ⟨A'', c'', w', hrun, ho, hb⟩
set_option maxRecDepth 100000 in
set_option maxHeartbeats 8000000 in
theorem ends_walk (OA : Option Addr) (on oc : Nat) (TA : Option Addr) (tn tc : Nat) (cut0 : Int) (w : World) (orig tl : List Int)
    (ho : orig.length = on) (hro : RdB w w.heap.size OA orig) (hoc : on ≤ oc ∧ oc ≤ maxLen) (hno : OA = none → oc = 0) (ht : tl.length = tn) (hrt : RdB w w.heap.size TA tl) (htc : tn ≤ tc ∧ tc ≤ maxLen) (htno : TA = none → tc = 0) (hm : I64 cut0) :
    Calls Try.prog 10 #[.slice OA on oc, .slice TA tn tc, .int .i64 cut0] w fun e w' => e = .returned (.bool true) ∧ Below w.heap.size w w' := by
  obtain ⟨i0, hi, hz0, hz1, hz2⟩ := info_parts Sc.info31
  obtain ⟨j0, ji, jz0, jz1, jz2⟩ := info_parts Sc.info5
  have HO := Lib.hid ho; have HRO := Lib.hid hro; have HNO : Hid (OA = none → on = 0 ∧ oc = 0) := Lib.hid (fun h => by have := hno h; omega)
  have HT := Lib.hid ht; have HRT := Lib.hid hrt; have HTNO : Hid (TA = none → tn = 0 ∧ tc = 0) := Lib.hid (fun h => by have := htno h; omega)
  have HOC := Lib.hid hoc; have HTC := Lib.hid htc
  have hoc' := hoc; have htc' := htc
  unfold maxLen at hoc' htc'
  unfold I64 at hm
  clear ho hro hno ht hrt hoc htc htno
  by_cases hlg : 2000 < on ∨ 1000 < tn
  · rcases hlg with h1 | h1
    · have f1 : decide ((2000 : Int) < (on : Int)) = true := decide_eq_true (by omega)
      clear h1
      go_enter Try.func10, Try.ntmps10
      go_wp2_with fail
      refine (awake_any w).mono ?_
      rintro e w1 ⟨rfl, hb1⟩
      have HB1 := Lib.hid hb1
      clear hb1
      go_wp2_with fail
      refine (awake_any w1).mono ?_
      rintro e w2 ⟨rfl, hb2⟩
      have HB2 := Lib.hid (HB1.out.trans (hb2.mono HB1.out.size))
      clear hb2
      go_wp2_with fail
      go_ret
      exact ⟨rfl, HB2.out⟩
    · have f1 : decide ((1000 : Int) < (tn : Int)) = true := decide_eq_true (by omega)
      clear h1
      go_enter Try.func10, Try.ntmps10
      go_wp2_with fail
      refine (awake_any w).mono ?_
      rintro e w1 ⟨rfl, hb1⟩
      have HB1 := Lib.hid hb1
      clear hb1
      go_wp2_with fail
      all_goals
        refine (awake_any w1).mono ?_
        rintro e w2 ⟨rfl, hb2⟩
        have HB2 := Lib.hid (HB1.out.trans (hb2.mono HB1.out.size))
        clear hb2
        go_wp2_with fail
        go_ret
        exact ⟨rfl, HB2.out⟩
  have on2 : on ≤ 2000 := by omega
  have tn2 : tn ≤ 1000 := by omega
  have f1 : decide ((2000 : Int) < (on : Int)) = false := decide_eq_false (by omega)
  have f2 : decide ((1000 : Int) < (tn : Int)) = false := decide_eq_false (by omega)
  have e0 := Int.emod_nonneg cut0 (show (on : Int) + 1 ≠ 0 by omega)
  have e1 := Int.emod_lt_of_pos cut0 (show (0 : Int) < (on : Int) + 1 by omega)
  obtain ⟨cut, hcut⟩ := Int.eq_ofNat_of_zero_le e0
  have HCU := Lib.hid hcut
  have hco : cut ≤ on := by omega
  have q1 : IntKind.i64.wrap ((on : Int) + 1) = (on : Int) + 1 := IntWalk.i64_in _ (by omega)
  clear hlg e0 e1 hcut
  go_enter Try.func10, Try.ntmps10
  go_wp2_with fail
  refine (awake_any w).mono ?_
  rintro e w1 ⟨rfl, hb1⟩
  have HB1 := Lib.hid hb1
  clear hb1
  go_wp2_with fail
  refine (Pick_any cut0 ((on : Int) + 1) w1 (by omega) (by omega) hm.1 hm.2).mono ?_
  rw [HCU.out]
  rintro e w2 ⟨rfl, rfl⟩
  have HB1' := HB1
  have hcp : (cut : Int) ≤ (on : Int) := by omega
  -- the target
  go_upto_if 33 with (fail)
  go_cut [7] (fun v wx => ∃ (A : Option Addr) (m c : Nat), v = .slice A m c ∧ m ≤ 1 ∧ Hid (Sc.Own wx w1.heap.size A m c (begL cut) ∧ Below w1.heap.size w1 wx))
  case first =>
    by_cases h0 : 0 < cut
    · have g1 : (0 : Int) < (cut : Int) := by omega
      go_wp2_with (at_builtin; refine wpList_append_own _ rfl _ _ 26 rfl w1.heap.size 48 i0 _ 3 24 Try.underlying26 hi hz0 hz1 hz2 rfl (by decide) _ _ _ rfl ((Sc.Own.nil w1 w1.heap.size).alloc _).2 ⟨w1.heap.size, 0, none⟩ 1 1 (Sc.cells [⟨0, 0, (cut : Int)⟩]) rfl rfl (Sc.new_one _ ⟨0, 0, (cut : Int)⟩ _ rfl) (Sc.cells_one_cell _) (by unfold maxLen; omega) (by omega) (by simp) ?_)
      intro v' w8 hown' hgrow _
      obtain ⟨⟨A8, c8, hv, hown8⟩, hb8, _, hz8, hcl⟩ := Sc.app_step (Sc.Own.nil w1 w1.heap.size) (Below.refl _ _) (Nat.le_refl _) ((Below.refl _ _).alloc (Nat.le_refl _) _) hown' hgrow
      rw [hv]
      have HN8 : Hid (Sc.Own w8 w1.heap.size A8 1 c8 (begL cut) ∧ Below w1.heap.size w1 w8) := Lib.hid ⟨by rw [begL_pos h0]; exact hown8, hb8⟩
      clear hcl hgrow hown' hv hown8 hb8 hz8
      go_wp2_with fail
      go_meet
      exact ⟨A8, 1, c8, rfl, Nat.le_refl _, HN8⟩
    · have g1 : ¬ (0 : Int) < (cut : Int) := by omega
      go_wp2_with fail
      go_meet
      exact ⟨none, 0, 0, rfl, by omega, Lib.hid ⟨by rw [begL_zero h0]; exact Sc.Own.nil _ _, Below.refl _ _⟩⟩
  case rest =>
    obtain ⟨A, m, c, rfl, hm1, HC⟩ := hcut
    go_upto_if 41 with (fail)
    go_cut [7] (fun v wx => ∃ (A : Option Addr) (m c : Nat), v = .slice A m c ∧ m ≤ 2 ∧ Hid (Sc.Own wx w1.heap.size A m c (endL cut tn) ∧ Below w1.heap.size w1 wx))
    case first =>
      have hszc : w1.heap.size ≤ wc.heap.size := HC.out.2.size
      have hcap := HC.out.1.cap
      unfold maxLen at hcap
      by_cases h0 : 0 < tn
      · have g1 : (0 : Int) < (tn : Int) := by omega
        go_wp2_with (at_builtin; refine wpList_append_own _ rfl _ _ 26 rfl w1.heap.size 48 i0 _ 3 24 Try.underlying26 hi hz0 hz1 hz2 rfl (by decide) _ _ _ rfl (HC.out.1.alloc _).2 ⟨wc.heap.size, 0, none⟩ 1 1 (Sc.cells [⟨1, 0, (tn : Int)⟩]) rfl rfl (Sc.new_one _ ⟨1, 0, (tn : Int)⟩ _ rfl) (Sc.cells_one_cell _) (by unfold maxLen; omega) (by omega) (by simp; omega) ?_)
        intro v' w8 hown' hgrow _
        obtain ⟨⟨A8, c8, hv, hown8⟩, hb8, _, hz8, hcl⟩ := Sc.app_step HC.out.1 HC.out.2 hszc ((Below.refl _ _).alloc (Nat.le_refl _) _) hown' hgrow
        rw [hv]
        have HN8 : Hid (Sc.Own w8 w1.heap.size A8 (m + 1) c8 (endL cut tn) ∧ Below w1.heap.size w1 w8) := Lib.hid ⟨by unfold endL; rw [if_pos h0]; exact hown8, hb8⟩
        clear hcl hgrow hown' hv hown8 hb8 hz8
        go_wp2_with fail
        go_meet
        exact ⟨A8, m + 1, c8, rfl, by omega, HN8⟩
      · have g1 : ¬ (0 : Int) < (tn : Int) := by omega
        have HN8 : Hid (Sc.Own wc w1.heap.size A m c (endL cut tn) ∧ Below w1.heap.size w1 wc) := Lib.hid ⟨by unfold endL; rw [if_neg h0, List.append_nil]; exact HC.out.1, HC.out.2⟩
        go_wp2_with fail
        go_meet
        exact ⟨A, m, c, rfl, by omega, HN8⟩
    case rest =>
      clear HC
      obtain ⟨A, m, c, rfl, hm2, HC⟩ := hcut
      have HTP := Lib.hid (end_target (tn := tn) hco (by omega) (by omega))
      have HTOT := Lib.hid (end_tot cut tn)
      have HTE := Lib.hid (end_tail (cut := cut) (tn := tn))
      have HRS := Lib.hid (end_rises cut tn)
      have HWANT : Hid (wantB (endL cut tn) orig tl = orig.take cut ++ tl) := Lib.hid (by rw [← HT.out]; exact end_want HO.out hco)
      have HBLK : Hid (∀ j : Nat, 64 * (j : Int) < (cut : Int) + tn → (64 * (j : Int) + 64 ≤ cut ∨ tn = 0) → Stays (endL cut tn) j) := Lib.hid (fun j h1 h2 => end_stays h1 h2)
      generalize endL cut tn = l at *
      have HBC : Hid (Below w.heap.size w wc) := Lib.hid (HB1.out.trans (HC.out.2.mono HB1.out.size))
      go_wp2_with fail
      refine (make_ok A m c l on 64 wc HC.out.1.1 HC.out.1.rd HTP.out (by omega) (by omega) (by rw [HTOT.out]; omega) (by omega)).mono ?_
      rintro e w4 ⟨⟨p, rfl, hp, hmk⟩, hb4⟩
      have HMW := Lib.hid (hmk.waves HTP.out.may.1 (by omega))
      have HMB := Lib.hid (hmk.blocks (by omega))
      have HPLN := Lib.hid (hmk.plan HTP.out (by omega) (by rw [HTOT.out]; omega) (by omega) HTE.out)
      have HRUN := Lib.hid (hmk.run (orig := orig) (tail := tl) (by rw [HO.out]; exact HTP.out) (by rw [HT.out]; exact HTE.out) (by rw [HTOT.out]; omega) (by omega))
      have HST : Hid (p.stash = []) := Lib.hid (by
        obtain ⟨o, stash, he, _, _, _, _, _, _, hr, _⟩ := hmk
        have h1 : p.stash = stash := congrArg Pln.stash he
        rw [h1]; exact hr HRS.out)
      have hlw := HMW.out.few
      have hwl : p.waves.length ≤ 1000000 := by
        simp only [PlV.pln, List.length_map] at hlw
        rw [HTOT.out] at hlw
        unfold blocksN at hlw
        omega
      have HBX : Hid (Bxp (w4.alloc (.cells p.cells 32)) w4.heap.size p) := Lib.hid (Bxp.made hp)
      have hb6 : Below w4.heap.size w4 (w4.alloc (.cells p.cells 32)) := (Below.refl _ _).alloc (Nat.le_refl _) _
      have HB6 := Lib.hid (HBC.out.trans ((hb4.trans (hb6.mono hb4.size)).mono HBC.out.size))
      clear hb4 hp hmk hlw hb6 HBC HC
      obtain ⟨zn, SA, sc, stash, WA, wq, waves⟩ := p
      unfold PlV.cells at *
      simp only at hwl
      have hst0 : stash = [] := HST.out
      subst hst0
      simp only [List.length_nil] at *
      obtain ⟨c0, c1, c2⟩ := HBX.out.cells
      go_wp2_with fail
      have HRC : Hid (∀ (W : World), Below (w4.alloc (.cells #[.int .i64 zn, .slice SA 0 sc, .slice WA waves.length wq] 32)).heap.size (w4.alloc (.cells #[.int .i64 zn, .slice SA 0 sc, .slice WA waves.length wq] 32)) W → Calls Try.prog 23 #[.agg #[.int .i64 zn, .slice SA 0 sc, .slice WA waves.length wq], .slice OA on oc, .slice TA tn tc] W fun e w' => RunR W (orig.take cut ++ tl) e w') := Lib.hid (fun W hb => by
        have h := Run_ok ⟨zn, SA, sc, [], WA, wq, waves⟩ orig tl OA on oc TA tn tc W (HBX.out.up hb).ok HPLN.out HO.out (HRO.out.up (HB6.out.trans (hb.mono HB6.out.size))) HOC.out HNO.out HT.out (HRT.out.up (HB6.out.trans (hb.mono HB6.out.size))) HTC.out (by omega) (by omega) hwl
        rw [HRUN.out, HWANT.out] at h
        exact h)
      refine (HRC.out _ (Below.refl _ _)).mono ?_
      rintro e w5 ⟨⟨GA, gn, gc, rfl, ho5⟩, hb5⟩
      have HBX5 := Lib.hid (HBX.out.up hb5)
      have HB5 := Lib.hid (HB6.out.trans (hb5.mono HB6.out.size))
      have HG5 := Lib.hid ho5.rd
      have HGL := Lib.hid ho5.1
      have hgl : gn = cut + tn := by have h := ho5.1; rw [List.length_append, List.length_take, HO.out, HT.out] at h; omega
      have hgc := ho5.cap
      unfold maxLen at hgc
      have HOC5 : Hid (RdB w5 w5.heap.size OA (orig.take cut)) := Lib.hid ((HRO.out.up HB5.out).take cut)
      have HOL : Hid ((orig.take cut).length = cut) := Lib.hid (by rw [List.length_take, HO.out]; omega)
      have HRT5 := Lib.hid (HRT.out.up HB5.out)
      clear ho5 hb5 HBX HB6 HRC c0 c1 c2
      obtain ⟨c0, c1, c2⟩ := HBX5.out.cells
      simp only [List.length_nil] at c1
      have hcc : (cut : Int) ≤ (oc : Int) := by omega
      have hcc0 : (0 : Int) ≤ (cut : Int) := by omega
      all_goals
        go_wp2_with fail
        refine (Sc.Copy_any _ _ _ w5 _ HOL.out HOC5.out (by omega)).mono ?_
        rintro e w6 ⟨⟨CA, cn, cc, rfl, ho6⟩, hb6⟩
        obtain rfl := HOL.out.symm.trans ho6.1
        have HO6 := Lib.hid ho6
        have HRT6 := Lib.hid (HRT5.out.up hb6)
        have HB56 := Lib.hid hb6
        have hz6 : w5.heap.size ≤ w6.heap.size := hb6.size
        clear ho6 hb6 HOC5 HRT5
        obtain ⟨A7, c7, w7, hrun, hown7, hb7⟩ := told_own w6 w5.heap.size CA _ cc _ HO6.out TA tn tc tl HT.out HRT6.out HTNO.out (by omega) hz6
        have hb57 : Below w5.heap.size w5 w7 := HB56.out.trans hb7
        have HG7 := Lib.hid (HG5.out.up hb57)
        have HBX7 := Lib.hid (HBX5.out.up hb57)
        have HB7 := Lib.hid (HB5.out.trans (hb57.mono HB5.out.size))
        have HA7 := Lib.hid hown7.rd
        clear hown7 hb7 hb57 HB56 HBX5 HG5 HB5 HO6 HRT6 c0 c1 c2
        obtain ⟨c0, c1, c2⟩ := HBX7.out.cells
        simp only [List.length_nil] at c1
        go_wp2_with fail
        clear hrun
        refine (Sc.SameB_true GA _ gc A7 _ c7 w7 (orig.take _ ++ tl) (by rw [HGL.out]; omega) HG7.out (by omega) rfl HA7.out).mono ?_
        rintro e w8 ⟨rfl, hb8⟩
        have HBX8 := Lib.hid (HBX7.out.up hb8)
        have HB8 := Lib.hid (HB7.out.trans (hb8.mono HB7.out.size))
        clear hb8 HBX7 HB7 HA7 HG7 c0 c1 c2
        obtain ⟨c0, c1, c2⟩ := HBX8.out.cells
        simp only [List.length_nil] at c1
        go_wp2_with fail
        go_loopw [12] (fun i wx => ∃ k : Nat, k ≤ waves.length ∧ i = .int .i64 k ∧ wx = w8) (fun i _ => waves.length - (intOf i).toNat)
        case atStart => exact ⟨0, Nat.zero_le _, rfl, rfl⟩
        case round =>
          obtain ⟨k, hk, rfl, rfl⟩ := hrel
          by_cases hlt : k < waves.length
          · obtain ⟨v, hv⟩ := Sc.get_some waves k hlt
            obtain ⟨vb2, voff, rfl, hvb2, v0, hvo⟩ := HBX8.out.ok.wv k v hv
            have HVB := Lib.hid (HMB.out v.wv (List.mem_map.2 ⟨v, List.mem_of_getElem? hv, rfl⟩))
            have HVS : Hid (∀ (j : Nat) s, v.steps[j]? = some s → s.st ∈ v.wv) := Lib.hid (fun j s h => List.mem_map.2 ⟨s, List.mem_of_getElem? h, rfl⟩)
            generalize v.wv = V at *
            obtain ⟨VA, vc, steps⟩ := v
            simp only at v0 HVS
            have HVO := Lib.hid hvo
            have hsl : steps.length ≤ 9223372036854775807 := Nat.le_trans hvo.cap.1 hvo.cap.2
            clear hv hvo
            go_wp2_with fail
            go_loopw [13] (fun i wx => ∃ j : Nat, j ≤ steps.length ∧ i = .int .i64 j ∧ wx = wr) (fun i _ => steps.length - (intOf i).toNat)
            case atStart => exact ⟨0, Nat.zero_le _, rfl, rfl⟩
            case round =>
              obtain ⟨j, hj, rfl, rfl⟩ := hrel
              by_cases hlj : j < steps.length
              · obtain ⟨s, hs⟩ := Sc.get_some steps j hlj
                obtain ⟨sb, soff, rfl, hsb, s0, s1, hso⟩ := HVO.out.rd j s hs
                have hbl := HVB.out s.st (HVS.out j s hs)
                rw [HTOT.out] at hbl
                have hnle : ¬ 64 * s.blk + 64 ≤ (cut : Int) ∧ 0 ≤ s.blk ∧ s.blk < 100000 := by
                  have h1 : 0 ≤ s.blk := hbl.1
                  have h2 : 64 * s.blk < (cut : Int) + (tn : Int) := hbl.2.1
                  refine ⟨fun h => hbl.2.2 (HBLK.out s.blk.toNat (by omega) (.inl (by omega))), h1, by omega⟩
                obtain ⟨blk, QA, qc, qparts⟩ := s
                simp only at s0 s1 hnle
                obtain ⟨fl, g0, g1⟩ := hnle
                have q2 : IntKind.i64.wrap (64 * blk) = 64 * blk := IntWalk.i64_in _ (by omega)
                have q3 : IntKind.i64.wrap (64 * blk + 64) = 64 * blk + 64 := IntWalk.i64_in _ (by omega)
                clear hs hso hbl
                go_wp2_with fail
                go_roundw
                case measure => simp [intOf]; omega
                case rel => exact ⟨j + 1, by omega, by go_num, trivial⟩
              · obtain rfl : j = steps.length := by omega
                clear hlj
                go_wp2_with fail
                go_roundw
                case measure => simp [intOf]; omega
                case rel => exact ⟨k + 1, by omega, by go_num, trivial⟩
          · obtain rfl : k = waves.length := by omega
            clear hlt hk
            by_cases h0 : 0 < tn
            · have g1 : (0 : Int) < (tn : Int) := by omega
              go_wp2_with fail
              go_ret
              exact ⟨rfl, HB8.out⟩
            · have g1 : ¬ (0 : Int) < (tn : Int) := by omega
              have hw0 : waves.length = 0 := by
                have h1 := waves_none (fun v hv => (HMW.out.each v hv).1) (fun v hv s hs => by
                  have hbl := HMB.out v hv s hs
                  rw [HTOT.out] at hbl
                  exact hbl.2.2 (HBLK.out s.1.toNat (by omega) (.inr (by omega))))
                have h2 : (waves.map WvV.wv) = [] := h1
                simpa using congrArg List.length h2
              have g2 : ((waves.length : Int) == 0) = true := by rw [hw0]; rfl
              clear hw0
              go_wp2_with fail
              go_ret
              exact ⟨rfl, HB8.out⟩
end Go.Proofs.Yteceephenfmdoaa
