/-
  MovesOrder's law: running the waves one by one is running them all (under way).
-/
import Derived.Test.YteceephenfmdoaaLMakes
import Derived.Test.YteceephenfmdoaaNRef
import Derived.Test.YteceephenfmdoaaNOrder
namespace Go.Proofs.Yteceephenfmdoaa
open Go.RowKit
open Sc (RdB OwnB bcells RdBL)
set_option maxRecDepth 100000 in
set_option maxHeartbeats 8000000 in
theorem order_walk (OA : Option Addr) (on oc : Nat) (TA : Option Addr) (tn tc : Nat) (PA : Option Addr) (pn pc : Nat) (most : Int) (w : World) (orig tl : List Int) (parts : List S)
    (ho : orig.length = on) (hro : RdB w w.heap.size OA orig) (hoc : on ≤ oc ∧ oc ≤ maxLen) (hno : OA = none → oc = 0) (ht : tl.length = tn) (hrt : RdB w w.heap.size TA tl) (htc : tn ≤ tc ∧ tc ≤ maxLen) (hlen : parts.length = pn) (hrp : Sc.Rd w w.heap.size PA parts) (hI : ∀ x ∈ parts, I64 x.src ∧ I64 x.at_ ∧ I64 x.len) (hm : I64 most) :
    Calls Try.prog 8 #[.slice OA on oc, .slice TA tn tc, .slice PA pn pc, .int .i64 most] w fun e w' => e = .returned (.bool true) ∧ Below w.heap.size w w' := by
  obtain ⟨i0, hi, hz0, hz1, hz2⟩ := info_parts Sc.info5
  have HO := Lib.hid ho; have HRO := Lib.hid hro; have HNO : Hid (OA = none → on = 0 ∧ oc = 0) := Lib.hid (fun h => by have := hno h; omega)
  have HT := Lib.hid ht; have HRT := Lib.hid hrt
  have HOC := Lib.hid hoc; have HTC := Lib.hid htc
  have HL := Lib.hid hlen; have HRP := Lib.hid hrp; have HI := Lib.hid hI
  unfold I64 at hm
  clear ho hro hno ht hrt hoc htc hlen hrp hI
  cases hlg : longB on tn pn with
  | true =>
    have HLG := Lib.hid hlg
    clear hlg
    go_enter Try.func8, Try.ntmps8
    go_wp2_with fail
    refine (awake_any w).mono ?_
    rintro e w1 ⟨rfl, hb1⟩
    have HB1 := Lib.hid hb1
    clear hb1
    go_wp2_with fail
    refine (long_any OA on oc TA tn tc PA pn pc w1).mono ?_
    rw [HLG.out]
    rintro e w1' ⟨rfl, rfl⟩
    go_wp2_with fail
    refine (awake_any w1).mono ?_
    rintro e w2 ⟨rfl, hb2⟩
    have HB2 := Lib.hid (HB1.out.trans (hb2.mono HB1.out.size))
    clear hb2
    go_wp2_with fail
    go_ret
    exact ⟨rfl, HB2.out⟩
  | false =>
    have HLG := Lib.hid hlg
    obtain ⟨on2, tn2, pn2⟩ := longB_not hlg
    have e0 := Int.emod_nonneg most (show (8 : Int) ≠ 0 by omega)
    have e1 := Int.emod_lt_of_pos most (show (0 : Int) < 8 by omega)
    obtain ⟨μ, hμ⟩ : ∃ μ : Nat, 1 + most % 8 = (μ : Int) := ⟨(1 + most % 8).toNat, by omega⟩
    have q4 : IntKind.i64.wrap (1 + most % 8) = (μ : Int) := by rw [IntWalk.i64_in _ (by omega)]; exact hμ
    have HMU : Hid (1 ≤ μ ∧ μ ≤ 64) := Lib.hid (by omega)
    clear hlg e0 e1 hμ
    go_enter Try.func8, Try.ntmps8
    go_wp2_with fail
    refine (awake_any w).mono ?_
    rintro e w1 ⟨rfl, hb1⟩
    have HB1 := Lib.hid hb1
    clear hb1
    go_wp2_with fail
    refine (long_any OA on oc TA tn tc PA pn pc w1).mono ?_
    rw [HLG.out]
    rintro e w1' ⟨rfl, rfl⟩
    go_wp2_with fail
    refine (target_any PA pn pc parts on tn w1 HL.out (HRP.out.up HB1.out) HI.out (by omega) (by omega) (by omega)).mono ?_
    rintro e w2 ⟨⟨LA, ln, lc, rfl, ho2⟩, hb2⟩
    have htm := target_may (size := on) (tail := tn) (by omega) (by omega) (parts := parts) (by have := HL.out; omega)
    have htt := target_tot (size := on) (tail := tn) (by omega) (by omega) (M := 2000) (by omega) parts
    have hte := target_each (size := on) (tail := tn) (by omega) (by omega) (parts := parts)
    have hplen := HL.out
    have htt2 : Sc.tot (targetL parts on tn) ≤ 60000 := by
      have : (parts.length : Int) * 2000 ≤ 30 * 2000 := by omega
      omega
    generalize targetL parts on tn = l at *
    have HB2 := Lib.hid (HB1.out.trans (hb2.mono HB1.out.size))
    have HRL := Lib.hid ho2.rd
    have HLL := Lib.hid ho2.1
    have HTP : Hid (TargetP l on) := Lib.hid htm
    have HTT := Lib.hid htt2
    have HTE : Hid (∀ s ∈ l, s.src = 1 → s.at_ + s.len ≤ (tn : Int)) := Lib.hid (fun s hs => (hte s hs).2.2.2)
    clear hb2 ho2 htm htt hte hplen htt2 HB1
    go_wp2_with fail
    refine (Pick_any most 8 w2 (by omega) (by omega) hm.1 hm.2).mono ?_
    rintro e w3 ⟨rfl, rfl⟩
    go_wp2_with fail
    refine (make_ok LA ln lc l on μ w2 HLL.out HRL.out HTP.out (by omega) HMU.out (by have := HTT.out; omega) (by omega)).mono ?_
    rintro e w4 ⟨⟨p, rfl, hp, hmk⟩, hb4⟩
    have hlw := (hmk.waves HTP.out.may.1 (by have := HMU.out; omega)).few
    have HPLN := Lib.hid (hmk.plan HTP.out (by omega) (by have := HTT.out; omega) HMU.out HTE.out)
    have htot := Sc.tot_nonneg l HTP.out.may.1
    have hwl : p.waves.length ≤ 1000000 := by
      simp only [PlV.pln, List.length_map] at hlw
      have := HTT.out
      unfold blocksN at hlw
      omega
    have HBX : Hid (Bxp (w4.alloc (.cells p.cells 32)) w4.heap.size p) := Lib.hid (Bxp.made hp)
    have hb6 : Below w4.heap.size w4 (w4.alloc (.cells p.cells 32)) := (Below.refl _ _).alloc (Nat.le_refl _) _
    have HB6 := Lib.hid (HB2.out.trans ((hb4.trans (hb6.mono hb4.size)).mono HB2.out.size))
    clear hb4 hp hmk hlw hb6 HB2 HRL HLL HTP HTT HTE htot
    obtain ⟨n, SA, sc, stash, WA, wq, waves⟩ := p
    unfold PlV.cells at *
    simp only at hwl
    obtain ⟨c0, c1, c2⟩ := HBX.out.cells
    go_wp2_with fail
    generalize w4.heap.size = vb at *
    generalize w4.alloc (.cells #[.int .i64 n, .slice SA stash.length sc, .slice WA waves.length wq] 32) = W6 at *
    refine (Run_ok ⟨n, SA, sc, stash, WA, wq, waves⟩ orig tl OA on oc TA tn tc W6 HBX.out.ok HPLN.out HO.out (HRO.out.up HB6.out) HOC.out HNO.out HT.out (HRT.out.up HB6.out) HTC.out (by omega) (by omega) hwl).mono ?_
    rintro e w7 ⟨⟨GA, gn, gc, rfl, ho7⟩, hb7⟩
    have HGL2 := Lib.hid ho7.1
    have HGR := Lib.hid ho7.rd
    have HB7 := Lib.hid (HB6.out.trans (hb7.mono HB6.out.size))
    have HBX7 := Lib.hid (HBX.out.up hb7)
    clear ho7 hb7 HBX HB6 c0 c1 c2
    have hn0 : 0 ≤ n := HPLN.out.1
    have hn1 : n ≤ 1048576 := HPLN.out.2.1
    have hsl : stash.length ≤ 100000 := by
      have h1 := right_len stash (-1) HPLN.out.2.2.1
      have h2 := right_tot_le (l := stash) HPLN.out.2.2.1 on (by omega) HPLN.out.2.2.2.1
      omega
    have HRR : Hid (Right stash ∧ ∀ r ∈ stash, r.2 ≤ (on : Int)) := Lib.hid ⟨HPLN.out.2.2.1, HPLN.out.2.2.2.1⟩
    have HQL : Hid (PlanP ⟨n, stash, waves.map WvV.wv⟩ orig.length tl.length) := Lib.hid (by rw [HO.out, HT.out]; exact HPLN.out)
    clear HPLN
    have HRO7 := Lib.hid (HRO.out.up HB7.out)
    have HRT7 := Lib.hid (HRT.out.up HB7.out)
    have hoc := HOC.out
    have htc := HTC.out
    unfold maxLen at hoc htc
    have hvbw : vb < w7.heap.size := (Array.getElem?_eq_some_iff.1 HBX7.out.c).1
    have e1 : w7.cell? ⟨vb, 1, none⟩ = some (.slice SA stash.length sc) := HBX7.out.cells.2.1
    generalize hB : w7.heap.size = B at *
    have HEB := Lib.hid hB
    have HPB : Hid (PlOk w7 B ⟨n, SA, sc, stash, WA, wq, waves⟩) := Lib.hid (by rw [← hB]; exact HBX7.out.ok)
    clear hB
    go_wp2_with fail
    clear e1
    go_loopw [13, 14] (fun v i wr => ∃ (k : Nat) (A : Option Addr) (m c : Nat), k ≤ stash.length ∧ i = .int .i64 k ∧ v = .slice A m c ∧ m ≤ on ∧ Hid (OwnB wr B A m c (stashB orig (stash.take k)) ∧ Below B w7 wr)) (fun _ i _ => stash.length - (intOf i).toNat)
    case atStart => exact ⟨0, none, 0, 0, Nat.zero_le _, rfl, rfl, Nat.zero_le _, Lib.hid ⟨by simpa [stashB] using Sc.OwnB.nil w7 B, Below.refl _ _⟩⟩
    case round =>
      obtain ⟨k, A, m, c, hk, rfl, rfl, hm, HI⟩ := hrel
      have hsz : B ≤ wr.heap.size := by have := HI.out.2.size; have := HEB.out; omega
      have e1 : wr.cell? ⟨vb, 1, none⟩ = some (.slice SA stash.length sc) := cell_of_row _ _ 1 _ 32 (0, 0) ((HI.out.2.block vb hvbw).trans HBX7.out.c)
      by_cases hlt : k < stash.length
      · obtain ⟨r, hr⟩ := Sc.get_some stash k hlt
        obtain ⟨b, off, rfl, hbb, d0, d1⟩ := (HPB.out.st.below HI.out.2 (Nat.le_refl _)) k r hr
        have hin := List.mem_of_getElem? hr
        have hrm := right_mem HRR.out.1 hin
        have hrt := HRR.out.2 r hin
        have hnx := stashB_next orig hr
        have hml : ((stashB orig (stash.take (k + 1))).length : Int) ≤ on := by
          have h1 := right_tot_le (right_take HRR.out.1 (k + 1)) on (by omega) (fun s hs => HRR.out.2 s (List.mem_of_mem_take hs))
          have h2 := stash_len (stash.take (k + 1)) (-1) orig (by omega) (right_take HRR.out.1 (k + 1)) (fun s hs => by have := HRR.out.2 s (List.mem_of_mem_take hs); have := HO.out; omega)
          omega
        rw [hnx, List.length_append] at hml
        have HNX := Lib.hid hnx
        obtain ⟨f, t⟩ := r
        simp only at d0 d1 hrm hrt hml
        obtain ⟨φ, rfl⟩ := Int.eq_ofNat_of_zero_le (show 0 ≤ f by omega)
        obtain ⟨τ, rfl⟩ := Int.eq_ofNat_of_zero_le (show 0 ≤ t by omega)
        simp only [Int.toNat_natCast] at HNX hml
        have hft : φ < τ := by omega
        have hto : τ ≤ on := by omega
        have htn : ((τ : Int) - (φ : Int)).toNat = τ - φ := by omega
        rw [htn] at HNX hml
        have hpl : ((orig.drop φ).take (τ - φ)).length = τ - φ := by rw [List.length_take, List.length_drop]; have := HO.out; omega
        have HPLL := Lib.hid hpl
        have hmm : m + (τ - φ) ≤ on := by rw [hpl, HI.out.1.1] at hml; omega
        obtain ⟨u, hu⟩ := Sc.get_some orig 0 (by have := HO.out; omega)
        obtain ⟨ob, ooff, rfl, hob, _⟩ := HRO7.out 0 u hu
        have HPI := Lib.hid (((HRO7.out.below HI.out.2 (by have := HEB.out; omega)).piece φ (τ - φ)).more (B' := wr.heap.size) (by have := HEB.out; omega))
        have hck : (oc = φ) = False := by simp; omega
        have hsub : (τ : Int) - (φ : Int) = ((τ - φ : Nat) : Int) := by omega
        have HBI := Lib.hid HI.out.2
        have HOI := Lib.hid HI.out.1
        have j0 : (0 : Int) ≤ (φ : Int) := by omega
        have j1 : (φ : Int) ≤ (τ : Int) := by omega
        have j2 : (τ : Int) ≤ (oc : Int) := by omega
        have j3 : (0 : Int) ≤ (k : Int) := by omega
        have j4 : (k : Int) < (stash.length : Int) := by omega
        have hbw : b < wr.heap.size := by omega
        have hpw : vb < wr.heap.size := by omega
        clear hr hin hrm hrt hnx hml htn hpl hu HI
        go_wp2_with fail
        have hfar : ∀ x : Nat, x < B → some x ≠ (Value.slice A m c).ownBlock := fun x hx e => by have := (HOI.out.2.lt x e.symm).1; omega
        go_region_held3 (fun w' => w'.cell? ⟨vb, 1, none⟩ = some (.slice (some ⟨b, off, none⟩) stash.length sc) ∧ w'.cell? ⟨b, off + k * 2, none⟩ = some (.int .i64 (φ : Int)) ∧ w'.cell? ⟨b, off + k * 2 + 1, none⟩ = some (.int .i64 (τ : Int)))
          (first | exact ⟨e1, d0, d1⟩ | (exact ⟨(hgrow5.cell_far ⟨vb, 1, none⟩ hpw (hfar vb hvbw)).trans e1, (hgrow5.cell_far ⟨b, off + k * 2, none⟩ hbw (hfar b hbb)).trans d0, (hgrow5.cell_far ⟨b, off + k * 2 + 1, none⟩ hbw (hfar b hbb)).trans d1⟩) | (go_keep; done))
          ((first
            | (refine step_append_lies _ (by rfl) (.tmp 70) (.tmp 84) 22 (by rfl) B 5 i0 _ 1 1 Try.underlying22 hi hz0 hz1 hz2 rfl (by decide) (.slice A m c) m (bcells (stashB orig (stash.take k))) (by rfl) (HOI.out.drewN 1).2 ⟨ob, ooff + φ, none⟩ (τ - φ) _ (bcells ((orig.drop φ).take (τ - φ))) (by rfl) (by rw [bcells, List.length_map, HPLL.out]; omega) (HPI.out.drewN 1).cells (Sc.bcells_one _) (by omega) (by unfold maxLen; omega) (by omega) (by simp; omega) wr.heap.size (by rfl) ?_; intro g5 k5 w5 hown5 hgrow5 hat5 hlt5)
            | fail))
        all_goals
          have HN5 : Hid (OwnB w5 B (some ⟨g5, 0, none⟩) (m + (τ - φ)) k5 (stashB orig (stash.take (k + 1))) ∧ Below B w7 w5) := Lib.hid ⟨⟨by rw [HNX.out, List.length_append, HPLL.out, HOI.out.1], by
            have e : bcells (stashB orig (stash.take (k + 1))) = bcells (stashB orig (stash.take k)) ++ bcells ((orig.drop φ).take (τ - φ)) := by rw [HNX.out]; simp [bcells]
            rw [e]; exact hown5⟩, (belowDrewN HBI.out 1).grown hgrow5 (by simp; omega) (fun x hx => (HOI.out.2.lt x hx).1)⟩
          clear hown5 hgrow5 hat5 hlt5 hfar e1 d0 d1 hbw hpw HPI HOI HBI
          go_wp2_with fail
          go_roundw
          case measure => simp [intOf]; omega
          case rel => exact ⟨k + 1, _, m + (τ - φ), k5, by omega, by go_num, rfl, hmm, HN5⟩
      · obtain rfl : k = stash.length := by omega
        clear hlt hk
        rw [List.take_length] at HI
        have HPW : Hid (PlOk wr B ⟨n, SA, sc, stash, WA, wq, waves⟩) := Lib.hid (HPB.out.below HI.out.2 (Nat.le_refl _))
        have HROW := Lib.hid (HRO7.out.below HI.out.2 (by have := HEB.out; omega))
        have HRTW := Lib.hid (HRT7.out.below HI.out.2 (by have := HEB.out; omega))
        have HXW := Lib.hid ((HI.out.2.block vb hvbw).trans HBX7.out.c)
        have HBW := Lib.hid (HB7.out.trans (HI.out.2.mono (by have := HB7.out.size; have := HEB.out; omega)))
        have HGW := Lib.hid (HGR.out.below HI.out.2 (by have := HEB.out; omega))
        have HST := Lib.hid HI.out.1
        have hpbw : vb < wr.heap.size := by omega
        clear HI HPB HRO7 HRT7 HBX7 HB7 HGR
        go_wp2_with fail
        clear e1
        refine (Sc.Copy_any OA on oc wr orig HO.out (HROW.out.more hsz) (by omega)).mono ?_
        rintro e w3 ⟨⟨A3, n3, c3, rfl, ho3⟩, hb3⟩
        obtain rfl : on = n3 := HO.out.symm.trans ho3.1
        have HO3 := Lib.hid ho3
        have HB3 := Lib.hid hb3
        have hBG : B ≤ wr.heap.size := hsz
        generalize wr = W0 at *
        generalize hG : W0.heap.size = G at *
        have HEG := Lib.hid hG
        obtain ⟨z, hzz⟩ : ∃ z : Nat, z = n.toNat - on := ⟨_, rfl⟩
        have HZZ := Lib.hid hzz
        have hz5 : z ≤ 1048576 := by omega
        have hgl : ∀ k g : Nat, k + g = z → (g = 0 → ¬ ((on + k : Nat) : Int) < n) ∧ (g ≠ 0 → ((on + k : Nat) : Int) < n) := fun k g h => by omega
        have HGL := Lib.hid hgl
        clear ho3 hb3 hG hzz hgl hsz
        go_wp2_with fail
        go_loopg [15] z (fun gk v wx => ∃ (k : Nat) (A' : Option Addr) (c' : Nat), k + gk = z ∧ v = .slice A' (on + k) c' ∧ Hid (OwnB wx G A' (on + k) c' (orig ++ List.replicate k 0) ∧ Below G W0 wx))
        case atStart => exact ⟨0, A3, c3, by omega, rfl, Lib.hid ⟨by simpa using HO3.out, HB3.out⟩⟩
        case round =>
          clear HO3 HB3
          obtain ⟨k, A', c', hk, rfl, HI⟩ := hrel
          have hGw : G ≤ wr.heap.size := by have := HI.out.2.size; have := HEG.out; omega
          have e0 : wr.cell? ⟨vb, 0, none⟩ = some (.int .i64 n) := cell_of_row _ _ 0 _ 32 (0, 0) ((HI.out.2.block vb (by omega)).trans HXW.out)
          cases gk with
          | succ gg =>
            have hlt : ((on + k : Nat) : Int) < n := (HGL.out k _ hk).2 (by omega)
            have hcap := HI.out.1.cap
            unfold maxLen at hcap
            go_wp2_with (at_builtin; (refine wpList_append_own _ rfl _ _ 22 rfl G 5 i0 _ 1 1 Try.underlying22 hi hz0 hz1 hz2 rfl (by decide) _ _ _ rfl (HI.out.1.alloc _).2 ⟨wr.heap.size, 0, none⟩ 1 1 (bcells [0]) rfl rfl (Sc.newb_one _ 0 _ rfl) (Sc.bcells_one _) (by unfold maxLen; omega) (by omega) (by simp; omega) ?_))
            intro v' w5 hown' hgrow _
            obtain ⟨⟨A'', c'', hv, hown2⟩, hb5, _, hz3, hcl⟩ := Sc.appB_step HI.out.1 HI.out.2 hGw ((Below.refl _ _).alloc (Nat.le_refl _) _) (m := 1) (K := [0]) rfl hown' hgrow
            rw [hv]
            have HN : Hid (OwnB w5 G A'' (on + (k + 1)) c'' (orig ++ List.replicate (k + 1) 0)) := Lib.hid (by rw [List.replicate_succ', ← List.append_assoc]; exact hown2)
            have HB5 := Lib.hid hb5
            clear hcl hgrow hown' hv hown2 hb5 hz3 e0 HI
            go_wp2_with fail
            go_roundg gg
            case measure => omega
            case rel => exact ⟨k + 1, A'', c'', by omega, rfl, Lib.hid ⟨HN.out, HB5.out⟩⟩
          | zero =>
            have hnlt : ¬ ((on + k : Nat) : Int) < n := by have := (HGL.out k 0 hk).1 rfl; omega
            obtain rfl : k = z := by omega
            have HF0 : Hid (OwnB wr G A' (on + k) c' (fileW ⟨n, stash, waves.map WvV.wv⟩ orig tl 0)) := Lib.hid (by
              have h := HI.out.1
              have e : k = n.toNat - orig.length := by rw [HO.out]; exact HZZ.out
              rw [e] at h
              rw [e]
              exact h)
            have HB0 := Lib.hid HI.out.2
            have HLL : Hid (((on + k : Nat) : Int) = max (on : Int) n) := Lib.hid (by have := HZZ.out; omega)
            have hLb : on + k ≤ 1148576 := by omega
            have hnL : n ≤ ((on + k : Nat) : Int) := by have := HLL.out; omega
            have hoL : on ≤ on + k := by omega
            have hcap := HI.out.1.cap
            unfold maxLen at hcap
            have HSTL : Hid ((stashB orig stash).length = m ∧ (m : Int) = tot stash) := Lib.hid ⟨HST.out.1, by
              have h1 := stash_len stash (-1) orig (by omega) HRR.out.1 (fun r hr => by have := HRR.out.2 r hr; have := HO.out; omega)
              have h2 := HST.out.1
              omega⟩
            have HSTC := Lib.hid HST.out.cap
            have HSTR : Hid (RdB W0 G A (stashB orig stash)) := Lib.hid (by have h := HST.out.rd; rw [HEG.out] at h; exact h)
            have HHAS : Hid (∀ (j : Nat) v, (waves.map WvV.wv)[j]? = some v → ∃ wr, WaveP n on tn (tot stash) wr v) := Lib.hid (fun j v hv => by
              have h := wavesP_at _ _ _ _ HQL.out.2.2.2.2 hv
              rw [HO.out, HT.out] at h
              exact h)
            clear HI HZZ HGL hz5 hk HST
            go_wp2_with fail
            clear e0 hnlt
            generalize on + k = L at *
            go_loopw [16] (fun i wx => ∃ k : Nat, k ≤ waves.length ∧ i = .int .i64 k ∧ Hid (Below G W0 wx ∧ OwnB wx G A' L c' (fileW ⟨n, stash, waves.map WvV.wv⟩ orig tl k))) (fun i _ => waves.length - (intOf i).toNat)
            case atStart => exact ⟨0, Nat.zero_le _, rfl, Lib.hid ⟨HB0.out, HF0.out⟩⟩
            case round =>
              clear HB0 HF0
              obtain ⟨k, hk, rfl, HI⟩ := hrel
              have hGw : G ≤ wr.heap.size := by have := HI.out.1.size; have := HEG.out; omega
              have e2 : wr.cell? ⟨vb, 2, none⟩ = some (.slice WA waves.length wq) := cell_of_row _ _ 2 _ 32 (0, 0) ((HI.out.1.block vb (by omega)).trans HXW.out)
              by_cases hlt : k < waves.length
              · obtain ⟨v, hv⟩ := Sc.get_some waves k hlt
                obtain ⟨wb, woff, rfl, hwb, w00, hwv⟩ := HPW.out.wv k v hv
                have w0 : wr.cell? ⟨wb, woff + k, none⟩ = some (.slice v.A v.steps.length v.c) := (HI.out.1.cell (p := ⟨wb, woff + k, none⟩) (by simp only; omega)).trans w00
                have e20 : W0.cell? ⟨vb, 2, none⟩ = some (.slice (some ⟨wb, woff, none⟩) waves.length wq) := cell_of_row _ _ 2 _ 32 (0, 0) HXW.out
                have HW0 := Lib.hid (And.intro w00 e20)
                clear w00 e20
                have hvw : (waves.map WvV.wv)[k]? = some v.wv := by rw [List.getElem?_map, hv]; rfl
                obtain ⟨wrr, hWV⟩ := HHAS.out k _ hvw
                have HWV := Lib.hid hWV.2.2.1
                have hvl : v.steps.length ≤ 64 := by have := hWV.2.1; simpa [WvV.wv] using this
                have hvl1 : 1 ≤ v.steps.length := by have := hWV.1; simpa [WvV.wv] using this
                have HFN := Lib.hid (fileW_next (p := ⟨n, stash, waves.map WvV.wv⟩) (orig := orig) (tail := tl) hvw)
                have HPUT := Lib.hid (order_puts HQL.out hvw (fileW ⟨n, stash, waves.map WvV.wv⟩ orig tl k))
                have HPRT : Hid (∀ s ∈ v.wv, ∀ x ∈ s.2, x.src = 0 → ((fileW ⟨n, stash, waves.map WvV.wv⟩ orig tl k).drop x.at_.toNat).take x.len.toNat = (orig.drop x.at_.toNat).take x.len.toNat) := Lib.hid (fun s hs x hx h0 => order_part HQL.out hvw hs hx h0)
                generalize hf : fileW ⟨n, stash, waves.map WvV.wv⟩ orig tl k = f at *
                have hfl : f.length = L := HI.out.2.1
                have HFL := Lib.hid hfl
                have HVW : Hid (∀ (j : Nat) s, v.steps[j]? = some s → v.wv[j]? = some s.st) := Lib.hid (fun j s h => by simp [WvV.wv, h])
                have HVL : Hid (v.wv.length = v.steps.length) := Lib.hid (by simp [WvV.wv])
                have hL1 : 1 ≤ L := by
                  obtain ⟨s0, hs0⟩ := Sc.get_some v.steps 0 hvl1
                  have hin := List.mem_of_getElem? (HVW.out 0 s0 hs0)
                  have htx := (HWV.out _ hin).text (f := f) (t := tl) (st := stashB orig stash) (by omega) (by show n ≤ _; omega) hn1 (by have := HT.out; omega) (by have := HSTL.out.1; have := HSTL.out.2; show tot stash ≤ _; omega)
                  have h8 : 64 * s0.st.1 + ((Sc.textB [f, tl, stashB orig stash] s0.st.2).length : Int) ≤ n := htx.2.2.2.2.1
                  omega
                generalize v.wv = V at *
                obtain ⟨VA, vc, steps⟩ := v
                simp only at w0 hvl HVW HVL HW0
                have HVO := Lib.hid hwv
                have hvc : steps.length ≤ vc ∧ vc ≤ 9223372036854775807 := hwv.cap
                have hq1 : IntKind.i64.wrap ((steps.length : Int) - 1) = (steps.length : Int) - 1 := IntWalk.i64_in _ (by omega)
                clear hv hwv hvw hWV hf hfl hvl1
                have HFB : Hid (OwnB wr G A' L c' f) := Lib.hid HI.out.2
                have HBI := Lib.hid HI.out.1
                clear HI
                obtain ⟨g, rfl, hgG, hgw, _, _⟩ := HFB.out.form (by omega)
                go_wp2_with fail
                clear e2 w0
                go_loopw [17] (fun i wx => ∃ (j : Nat) (x : Int), j ≤ steps.length ∧ x + 1 = (j : Int) ∧ i = .int .i64 x ∧ Hid (Below G W0 wx ∧ OwnB wx G (some ⟨g, 0, none⟩) L c' f)) (fun i _ => (intOf i + 1).toNat)
                case atStart => exact ⟨steps.length, (steps.length : Int) - 1, Nat.le_refl _, by omega, by first | rfl | rw [hq1], Lib.hid ⟨HBI.out, HFB.out⟩⟩
                case round =>
                  clear HBI HFB
                  obtain ⟨j, x, hj, hx, rfl, HJ⟩ := hrel
                  have hGx : G ≤ wr.heap.size := by have := HJ.out.1.size; have := HEG.out; omega
                  have hgx : g < wr.heap.size := (OwnB.block HJ.out.2).2.1
                  have y0 : wr.cell? ⟨wb, woff + k, none⟩ = some (.slice VA steps.length vc) := (HJ.out.1.cell (p := ⟨wb, woff + k, none⟩) (by simp only; omega)).trans HW0.out.1
                  have y1 : wr.cell? ⟨vb, 2, none⟩ = some (.slice (some ⟨wb, woff, none⟩) waves.length wq) := (HJ.out.1.cell (p := ⟨vb, 2, none⟩) (by simp only; omega)).trans HW0.out.2
                  have hkw : k < waves.length := hlt
                  by_cases hj0 : j = 0
                  · subst hj0
                    obtain rfl : x = -1 := by omega
                    have HBS := Lib.hid HJ.out.1
                    have HFS := Lib.hid HJ.out.2
                    clear HJ hx hj
                    go_wp2_with fail
                    clear y0 y1
                    go_loopw [21] (fun i wx => ∃ j : Nat, j ≤ steps.length ∧ i = .int .i64 j ∧ Hid (Below G W0 wx ∧ OwnB wx G (some ⟨g, 0, none⟩) L c' (putsK [orig, tl, stashB orig stash] f V j))) (fun i _ => steps.length - (intOf i).toNat)
                    case atStart => exact ⟨0, Nat.zero_le _, rfl, Lib.hid ⟨HBS.out, HFS.out⟩⟩
                    case round =>
                      clear HBS HFS
                      obtain ⟨j, hj, rfl, HJ⟩ := hrel
                      have hGx : G ≤ wr.heap.size := by have := HJ.out.1.size; have := HEG.out; omega
                      have hgx : g < wr.heap.size := (OwnB.block HJ.out.2).2.1
                      have y0 : wr.cell? ⟨wb, woff + k, none⟩ = some (.slice VA steps.length vc) := (HJ.out.1.cell (p := ⟨wb, woff + k, none⟩) (by simp only; omega)).trans HW0.out.1
                      have y1 : wr.cell? ⟨vb, 2, none⟩ = some (.slice (some ⟨wb, woff, none⟩) waves.length wq) := (HJ.out.1.cell (p := ⟨vb, 2, none⟩) (by simp only; omega)).trans HW0.out.2
                      by_cases hlj : j < steps.length
                      · obtain ⟨s, hs⟩ := Sc.get_some steps j hlj
                        obtain ⟨stb, soff, rfl, hstb, s0, s1, hso⟩ := HVO.out.rd j s hs
                        have hsv := HVW.out j s hs
                        have htx := (HWV.out s.st (List.mem_of_getElem? hsv)).text0 (f := orig) (t := tl) (st := stashB orig stash) (by have := HO.out; omega) hn1 (by have := HT.out; omega) (by have := HSTL.out.1; have := HSTL.out.2; omega)
                        have HPN := Lib.hid (putsK_next (srcs := [orig, tl, stashB orig stash]) (f := f) hsv)
                        obtain ⟨blk, PA, pc, parts⟩ := s
                        simp only at s0 s1
                        simp only [StV.st] at htx HPN
                        have HTX := Lib.hid htx
                        have hpl : parts.length ≤ 9223372036854775807 := Nat.le_trans hso.cap.1 hso.cap.2
                        have t0 : wr.cell? ⟨stb, soff + j * 2, none⟩ = some (.int .i64 blk) := (HJ.out.1.cell (p := ⟨stb, soff + j * 2, none⟩) (by simp only; omega)).trans s0
                        have t1 : wr.cell? ⟨stb, soff + j * 2 + 1, none⟩ = some (.slice PA parts.length pc) := (HJ.out.1.cell (p := ⟨stb, soff + j * 2 + 1, none⟩) (by simp only; omega)).trans s1
                        have i0' : (0 : Int) ≤ (j : Int) := by omega
                        have i1' : (j : Int) < (steps.length : Int) := by omega
                        have b0 : (wr.alloc (.cells #[.int .i64 blk, .slice PA parts.length pc] 70)).cell? ⟨wr.heap.size, 0, none⟩ = some (.int .i64 blk) := cell_new wr _ 70 0
                        have b1 : (wr.alloc (.cells #[.int .i64 blk, .slice PA parts.length pc] 70)).cell? ⟨wr.heap.size, 1, none⟩ = some (.slice PA parts.length pc) := cell_new wr _ 70 1
                        have HBA : Hid (Below G W0 (wr.alloc (.cells #[.int .i64 blk, .slice PA parts.length pc] 70)) ∧ OwnB (wr.alloc (.cells #[.int .i64 blk, .slice PA parts.length pc] 70)) G (some ⟨g, 0, none⟩) L c' (putsK [orig, tl, stashB orig stash] f V j)) := Lib.hid ⟨HJ.out.1.alloc hGx _, HJ.out.2.alloc _⟩
                        have HRP := Lib.hid (hso.rd.below HBA.out.1 (by omega))
                        have HB0 := Lib.hid b0
                        have hva : wr.heap.size < (wr.alloc (.cells #[.int .i64 blk, .slice PA parts.length pc] 70)).heap.size := by simp
                        clear hs s0 s1 hso hsv HJ htx b0
                        go_upto_region 32 with (fail)
                        clear y0 y1 t0 t1
                        generalize wr.alloc (.cells #[.int .i64 blk, .slice PA parts.length pc] 70) = Wa at *
                        generalize hvse : wr.heap.size = vs at *
                        clear hvse
                        have hGa : G ≤ Wa.heap.size := by omega
                        have HSRC : Hid (RdBL (Wa.alloc (.cells #[.slice OA on oc, .slice TA tn tc, .slice A m c] 22)) (Wa.alloc (.cells #[.slice OA on oc, .slice TA tn tc, .slice A m c] 22)).heap.size (some ⟨Wa.heap.size, 0, none⟩) [orig, tl, stashB orig stash]) := Lib.hid (RdBL.three ((HROW.out.below HBA.out.1 (by omega)).more (by omega)) HO.out HOC.out ((HRTW.out.below HBA.out.1 (by omega)).more (by omega)) HT.out HTC.out ((HSTR.out.below HBA.out.1 (Nat.le_refl _)).more hGa) HSTL.out.1 HSTC.out 22)
                        have hbs : Below Wa.heap.size Wa (Wa.alloc (.cells #[.slice OA on oc, .slice TA tn tc, .slice A m c] 22)) := (Below.refl _ _).alloc (Nat.le_refl _) _
                        have HRP2 := Lib.hid (Sc.Rd.more (HRP.out.below hbs (by omega)) (B' := (Wa.alloc (.cells #[.slice OA on oc, .slice TA tn tc, .slice A m c] 22)).heap.size) (by simp; omega))
                        have HBS := Lib.hid hbs
                        clear hbs
                        go_wp2_with fail
                        clear b1
                        refine (Sc.refText_any PA parts.length pc (some ⟨Wa.heap.size, 0, none⟩) 3 3 _ parts [orig, tl, stashB orig stash] rfl HRP2.out hpl rfl HSRC.out (by omega)).mono ?_
                        rintro e w9 ⟨⟨bA, bn, bc, rfl, ho9⟩, hb9⟩
                        rw [HTX.out.1]
                        rw [HTX.out.2.1] at ho9
                        obtain ⟨_, _, z0, z1, z2, z3⟩ := HTX.out
                        generalize hX : Sc.textB [orig, tl, stashB orig stash] parts = X at *
                        obtain rfl := ho9.1
                        have hb99 : Below Wa.heap.size Wa w9 := HBS.out.trans (hb9.mono HBS.out.size)
                        have HTB : Hid (TxOk w9 Wa.heap.size ⟨bA, bc, X⟩) := Lib.hid ((TxOk.of_own ho9).mono HBS.out.size)
                        have HJ7 : Hid (Below G W0 w9 ∧ OwnB w9 G (some ⟨g, 0, none⟩) L c' (putsK [orig, tl, stashB orig stash] f V j)) := Lib.hid ⟨HBA.out.1.trans (hb99.mono hGa), HBA.out.2.below hb99 (Nat.le_refl _)⟩
                        have b0 : w9.cell? ⟨vs, 0, none⟩ = some (.int .i64 blk) := (hb99.cell (p := ⟨vs, 0, none⟩) hva).trans HB0.out
                        have hv7 : vs < w9.heap.size := by have := hb99.size; omega
                        have hgl : g < Wa.heap.size := (OwnB.block HBA.out.2).2.1
                        obtain ⟨o, ho⟩ : ∃ o : Nat, 64 * blk = (o : Int) := ⟨(64 * blk).toNat, by omega⟩
                        have hoe : (64 * blk).toNat = o := by omega
                        rw [hoe] at HPN
                        have hw64 : IntKind.i64.wrap (64 * blk) = (o : Int) := by rw [IntWalk.i64_in _ (by omega)]; exact ho
                        have hoL : o + X.length ≤ L := by omega
                        have hXL : X.length ≤ 64 := z2
                        have HB07 := Lib.hid b0
                        have HXL := Lib.hid hX
                        have hvg : vs ≠ g := by omega
                        have hs9 : G ≤ w9.heap.size := by omega
                        clear ho9 hb9 hb99 HTX HRP HRP2 HSRC HBS HB0 HBA ho hoe z0 z1 z2 z3 b0 hX hva
                        go_wp2_with fail
                        go_loopw [25] (fun i wx => ∃ q : Nat, q ≤ X.length ∧ i = .int .i64 q ∧ Hid (w9.grownBy wx (some g) ∧ OwnB wx G (some ⟨g, 0, none⟩) L c' (splB (putsK [orig, tl, stashB orig stash] f V j) o (X.take q)))) (fun i _ => X.length - (intOf i).toNat)
                        case atStart => exact ⟨0, Nat.zero_le _, rfl, Lib.hid ⟨World.grownBy.refl _ _, by rw [List.take_zero, splB_nil]; exact HJ7.out.2⟩⟩
                        case round =>
                          obtain ⟨q, hq, rfl, HK⟩ := hrel
                          by_cases hlq : q < X.length
                          · obtain ⟨x, hx⟩ := Sc.get_some X q hlq
                            obtain ⟨bb, bo, rfl, hbb, d0⟩ := HTB.out.rd q x hx
                            have hbbB := (HTB.out.ty bb (inA_some.2 rfl)).1
                            have b0 : wr.cell? ⟨vs, 0, none⟩ = some (.int .i64 blk) := (HK.out.1.cell_far ⟨vs, 0, none⟩ hv7 (by simp only; intro e; injection e with e; omega)).trans HB07.out
                            have d1 : wr.cell? ⟨bb, bo + q, none⟩ = some (.int .u8 x) := (HK.out.1.cell_far ⟨bb, bo + q, none⟩ hbb (by simp only; intro e; injection e with e; omega)).trans d0
                            obtain ⟨pp, hpp⟩ : ∃ pp : Nat, pp = o + q := ⟨_, rfl⟩
                            have hstep := splB_step (f := putsK [orig, tl, stashB orig stash] f V j) (o := o) hx (by rw [HJ7.out.2.1]; omega)
                            have hset := OwnB.setAt (HK.out.2.drewN 1) (i := o + q) (by omega) x
                            rw [hstep, ← hpp] at hset
                            obtain ⟨_, hgw7, hLc, _, cur, hcur, hcs⟩ := OwnB.block HK.out.2
                            obtain ⟨oldv, hold⟩ : ∃ u, cur[pp]? = some u := ⟨_, Array.getElem?_eq_getElem (by omega)⟩
                            have f0 : wr.cell? ⟨g, pp, none⟩ = some oldv := (cell_of_row wr g (pp) cur 5 (0, 0) hcur).trans hold
                            have f1 : wr.frozen? ⟨g, pp, none⟩ = false := frozen_of_row wr g (pp) cur 5 hcur
                            have hwq : IntKind.i64.wrap ((o : Int) + (q : Int)) = (pp : Int) := by rw [IntWalk.i64_in _ (by omega)]; omega
                            have j0 : (0 : Int) ≤ (q : Int) := by omega
                            have j1 : (q : Int) < (X.length : Int) := by omega
                            have j2 : (0 : Int) ≤ (pp : Int) := by omega
                            have j3 : (pp : Int) < (L : Int) := by omega
                            have hne1 : vs ≠ g := hvg
                            have hne2 : bb ≠ g := by omega
                            have HN : Hid (w9.grownBy (wr.drew.setCell ⟨g, pp, none⟩ (.int .u8 x)) (some g) ∧ OwnB (wr.drew.setCell ⟨g, pp, none⟩ (.int .u8 x)) G (some ⟨g, 0, none⟩) L c' (splB (putsK [orig, tl, stashB orig stash] f V j) o (X.take (q + 1)))) := Lib.hid ⟨⟨HK.out.1.os, HK.out.1.tape, HK.out.1.output, by simp; exact HK.out.1.size, fun i hi hne => by
                              have h1 : (wr.drew.setCell ⟨g, pp, none⟩ (.int .u8 x)).heap[i]? = wr.heap[i]? := heap_setCell_other wr.drew ⟨g, pp, none⟩ i _ (fun e => hne (by simp only at e; rw [e]))
                              exact h1.trans (HK.out.1.block i hi hne)⟩, hset⟩
                            have k0 : (wr.drew.setCell ⟨g, pp, none⟩ (.int .u8 x)).cell? ⟨vs, 0, none⟩ = some (.int .i64 blk) := (World.cell?_of_block (w := wr.drew) (a := ⟨vs, 0, none⟩) (heap_setCell_other wr.drew ⟨g, pp, none⟩ vs _ hne1)).trans b0
                            have k1 : (wr.drew.setCell ⟨g, pp, none⟩ (.int .u8 x)).cell? ⟨bb, bo + q, none⟩ = some (.int .u8 x) := (World.cell?_of_block (w := wr.drew) (a := ⟨bb, bo + q, none⟩) (heap_setCell_other wr.drew ⟨g, pp, none⟩ bb _ hne2)).trans d1
                            clear hpp hset hstep hx hcur hcs hold d0 hbb HK
                            go_wp2_with fail
                            go_region_held3 (fun w' => w'.cell? ⟨vs, 0, none⟩ = some (.int .i64 blk) ∧ w'.cell? ⟨bb, bo + q, none⟩ = some (.int .u8 x)) (first | exact ⟨b0, d1⟩ | exact ⟨k0, k1⟩ | (go_keep; done)) (fail)
                            all_goals
                              clear b0 d1 k0 k1 f0 f1
                              go_wp2_with fail
                              go_roundw
                              case measure => simp [intOf]; omega
                              case rel => exact ⟨q + 1, by omega, by go_num, HN⟩
                          · obtain rfl : q = X.length := by omega
                            clear hlq
                            have HEND : Hid (Below G W0 wr ∧ OwnB wr G (some ⟨g, 0, none⟩) L c' (putsK [orig, tl, stashB orig stash] f V (j + 1))) := Lib.hid ⟨HJ7.out.1.trans (below_of_grown HK.out.1 hgG (by omega)), by
                              have h := HK.out.2
                              rw [List.take_length] at h
                              rw [HPN.out]; exact h⟩
                            clear HK
                            go_wp2_with fail
                            go_roundw
                            case measure => simp [intOf]; omega
                            case rel => exact ⟨j + 1, by omega, by go_num, HEND⟩
                      · obtain rfl : j = steps.length := by omega
                        clear hlj
                        have HEND : Hid (Below G W0 wr ∧ OwnB wr G (some ⟨g, 0, none⟩) L c' (fileW ⟨n, stash, waves.map WvV.wv⟩ orig tl (k + 1))) := Lib.hid ⟨HJ.out.1, by
                          have h := HJ.out.2
                          rw [← HVL.out, HPUT.out, putsK_all] at h
                          rw [HFN.out]; exact h⟩
                        clear HJ
                        go_wp2_with fail
                        go_roundw
                        case measure => simp [intOf]; omega
                        case rel => exact ⟨k + 1, by omega, by go_num, HEND⟩
                  · obtain ⟨i, rfl⟩ : ∃ i, j = i + 1 := ⟨j - 1, by omega⟩
                    obtain rfl : x = (i : Int) := by omega
                    obtain ⟨s, hs⟩ := Sc.get_some steps i (by omega)
                    obtain ⟨stb, soff, rfl, hstb, s0, s1, hso⟩ := HVO.out.rd i s hs
                    have hsv := List.mem_of_getElem? (HVW.out i s hs)
                    have HIN := Lib.hid (fun (y : S) (hy : y ∈ s.st.2) (h0 : y.src = 0) => part_in (HWV.out s.st hsv) hy h0)
                    have HSM := Lib.hid (HPRT.out s.st hsv)
                    obtain ⟨blk, PA, pc, parts⟩ := s
                    simp only at s0 s1
                    simp only [StV.st] at HIN HSM
                    have hpl : parts.length ≤ 9223372036854775807 := Nat.le_trans hso.cap.1 hso.cap.2
                    have HSO := Lib.hid hso.rd
                    have t0 : wr.cell? ⟨stb, soff + i * 2, none⟩ = some (.int .i64 blk) := (HJ.out.1.cell (p := ⟨stb, soff + i * 2, none⟩) (by simp only; omega)).trans s0
                    have t1 : wr.cell? ⟨stb, soff + i * 2 + 1, none⟩ = some (.slice PA parts.length pc) := (HJ.out.1.cell (p := ⟨stb, soff + i * 2 + 1, none⟩) (by simp only; omega)).trans s1
                    have hi0 : (0 : Int) ≤ (i : Int) := by omega
                    have hi1 : (i : Int) < (steps.length : Int) := by omega
                    have b1 : (wr.alloc (.cells #[.int .i64 blk, .slice PA parts.length pc] 70)).cell? ⟨wr.heap.size, 1, none⟩ = some (.slice PA parts.length pc) := cell_new wr _ 70 1
                    have HBA : Hid (Below G W0 (wr.alloc (.cells #[.int .i64 blk, .slice PA parts.length pc] 70)) ∧ OwnB (wr.alloc (.cells #[.int .i64 blk, .slice PA parts.length pc] 70)) G (some ⟨g, 0, none⟩) L c' f) := Lib.hid ⟨HJ.out.1.alloc hGx _, HJ.out.2.alloc _⟩
                    have HB1 := Lib.hid b1
                    have hva : wr.heap.size < (wr.alloc (.cells #[.int .i64 blk, .slice PA parts.length pc] 70)).heap.size := by simp
                    clear hs s0 s1 hso hsv HJ b1
                    go_wp2_with fail
                    clear y0 y1 t0 t1
                    generalize wr.alloc (.cells #[.int .i64 blk, .slice PA parts.length pc] 70) = Wa at *
                    generalize wr.heap.size = vs at *
                    go_loopw [19] (fun i wx => ∃ q : Nat, q ≤ parts.length ∧ i = .int .i64 q ∧ vs < wx.heap.size ∧ Hid ((Below G W0 wx ∧ OwnB wx G (some ⟨g, 0, none⟩) L c' f) ∧ wx.cell? ⟨vs, 1, none⟩ = some (.slice PA parts.length pc))) (fun i _ => parts.length - (intOf i).toNat)
                    case atStart => exact ⟨0, Nat.zero_le _, rfl, hva, Lib.hid ⟨HBA.out, HB1.out⟩⟩
                    case round =>
                      clear HBA HB1
                      obtain ⟨q, hq, rfl, hvx, HK⟩ := hrel
                      have hGy : G ≤ wr.heap.size := by omega
                      have hgy : g < wr.heap.size := (OwnB.block HK.out.1.2).2.1
                      have z1 : wr.cell? ⟨vs, 1, none⟩ = some (.slice PA parts.length pc) := HK.out.2
                      by_cases hlq : q < parts.length
                      · obtain ⟨y, hy⟩ := Sc.get_some parts q hlq
                        obtain ⟨xb, xoff, rfl, hxb, d0, d1, d2⟩ := (HSO.out.below HK.out.1.1 (by omega)) q y hy
                        have hym := List.mem_of_getElem? hy
                        have HY := Lib.hid (HIN.out y hym)
                        have HS := Lib.hid (HSM.out y hym)
                        obtain ⟨ys, ya, yl⟩ := y
                        simp only at d0 d1 d2 HY HS
                        have b0 : (wr.alloc (.cells #[.int .i64 ys, .int .i64 ya, .int .i64 yl] 48)).cell? ⟨wr.heap.size, 0, none⟩ = some (.int .i64 ys) := cell_new wr _ 48 0
                        have b1 : (wr.alloc (.cells #[.int .i64 ys, .int .i64 ya, .int .i64 yl] 48)).cell? ⟨wr.heap.size, 1, none⟩ = some (.int .i64 ya) := cell_new wr _ 48 1
                        have b2 : (wr.alloc (.cells #[.int .i64 ys, .int .i64 ya, .int .i64 yl] 48)).cell? ⟨wr.heap.size, 2, none⟩ = some (.int .i64 yl) := cell_new wr _ 48 2
                        have HB := Lib.hid (And.intro b0 (And.intro b1 b2))
                        have HKA : Hid ((Below G W0 (wr.alloc (.cells #[.int .i64 ys, .int .i64 ya, .int .i64 yl] 48)) ∧ OwnB (wr.alloc (.cells #[.int .i64 ys, .int .i64 ya, .int .i64 yl] 48)) G (some ⟨g, 0, none⟩) L c' f) ∧ (wr.alloc (.cells #[.int .i64 ys, .int .i64 ya, .int .i64 yl] 48)).cell? ⟨vs, 1, none⟩ = some (.slice (some ⟨xb, xoff, none⟩) parts.length pc)) := Lib.hid ⟨⟨HK.out.1.1.alloc hGy _, HK.out.1.2.alloc _⟩, (World.cell?_alloc_lt wr _ ⟨vs, 1, none⟩ (by simp only; omega)).trans HK.out.2⟩
                        have hvb2 : vs < (wr.alloc (.cells #[.int .i64 ys, .int .i64 ya, .int .i64 yl] 48)).heap.size := by simp; omega
                        have hq0 : (0 : Int) ≤ (q : Int) := by omega
                        have hq1 : (q : Int) < (parts.length : Int) := by omega
                        clear hy hym HK b0 b1 b2
                        go_upto_region 26 with (fail)
                        clear z1 d0 d1 d2
                        generalize wr.alloc (.cells #[.int .i64 ys, .int .i64 ya, .int .i64 yl] 48) = Wb at *
                        generalize wr.heap.size = vy at *
                        by_cases hs0 : ys = 0
                        · subst hs0
                          obtain ⟨r0, r1, r2⟩ := HY.out rfl
                          have hsame := HS.out rfl
                          obtain ⟨φ, rfl⟩ := Int.eq_ofNat_of_zero_le r0
                          obtain ⟨ν, rfl⟩ := Int.eq_ofNat_of_zero_le (show 0 ≤ yl by omega)
                          simp only [Int.toNat_natCast] at hsame
                          obtain ⟨τ, hτ⟩ : ∃ τ, τ = φ + ν := ⟨_, rfl⟩
                          have hwq : IntKind.i64.wrap ((φ : Int) + (ν : Int)) = (τ : Int) := by rw [IntWalk.i64_in _ (by omega)]; omega
                          have hLc := HKA.out.1.2.cap
                          unfold maxLen at hLc
                          have j0 : (0 : Int) ≤ (φ : Int) := by omega
                          have j1 : (φ : Int) ≤ (τ : Int) := by omega
                          have j2 : (τ : Int) ≤ (oc : Int) := by omega
                          have j3 : (τ : Int) ≤ (c' : Int) := by omega
                          have j4 : ((τ : Int) - (φ : Int)) = (ν : Int) := by omega
                          have hck1 : (c' = φ) = False := by simp; omega
                          have hck2 : (oc = φ) = False := by simp; omega
                          obtain ⟨u, hu⟩ := Sc.get_some orig 0 (by have := HO.out; omega)
                          obtain ⟨ob, ooff, hOA, hob, _⟩ := HROW.out 0 u hu
                          have HFP := Lib.hid (HKA.out.1.2.rd.piece φ ν)
                          have HOP : Hid (RdB Wb Wb.heap.size (some ⟨ob, ooff + φ, none⟩) ((orig.drop φ).take ν)) := Lib.hid (by
                            have h := (HROW.out.below HKA.out.1.1 (by omega)).more (B' := Wb.heap.size) (by have := HKA.out.1.1.size; have := HEG.out; omega)
                            rw [hOA] at h
                            exact h.piece φ ν)
                          have hlen : ((orig.drop φ).take ν).length = ν := by rw [List.length_take, List.length_drop]; have := HO.out; omega
                          rw [hsame] at HFP
                          have q0 : ∀ q : Qs Wb, q.1.cell? ⟨vy, 0, none⟩ = some (.int .i64 0) := fun q => q.cell HB.out.1
                          have q1 : ∀ q : Qs Wb, q.1.cell? ⟨vy, 1, none⟩ = some (.int .i64 (φ : Int)) := fun q => q.cell HB.out.2.1
                          have q2 : ∀ q : Qs Wb, q.1.cell? ⟨vy, 2, none⟩ = some (.int .i64 (ν : Int)) := fun q => q.cell HB.out.2.2
                          have hg0 : 0 + φ = φ := by omega
                          rw [hg0] at HFP
                          have hRx : ∀ q : Qs Wb, Calls Try.prog 24 #[.slice (some ⟨g, φ, none⟩) ν (c' - φ), .slice (some ⟨ob, ooff + φ, none⟩) ν (oc - φ)] q.1 fun e w'' => e = .returned (.bool true) ∧ ∃ q' : Qs Wb, w'' = q'.1 := fun q => q.calls (Sc.SameB_true _ ν _ _ ν _ q.1 _ hlen (HFP.out.up q.2) (by omega) rfl (HOP.out.up q.2))
                          clear hg0
                          subst hOA
                          refine wp_region_below (by kernel_rfl) (by kernel_rfl) ?_
                          repeat (go_big_quiet_step (first | exact hRx _))
                          refine wpQuiet_nil ?_
                          rintro _ ⟨q', rfl⟩
                          have HKN : Hid ((Below G W0 q'.1 ∧ OwnB q'.1 G (some ⟨g, 0, none⟩) L c' f) ∧ q'.1.cell? ⟨vs, 1, none⟩ = some (.slice (some ⟨xb, xoff, none⟩) parts.length pc)) := Lib.hid ⟨⟨HKA.out.1.1.trans (q'.2.mono (by have := HKA.out.1.1.size; have := HEG.out; omega)), HKA.out.1.2.below q'.2 (Nat.le_refl _)⟩, q'.cell HKA.out.2⟩
                          have hvn : vs < q'.1.heap.size := by have := q'.2.size; omega
                          clear q0 q1 q2 hRx HKA HB hvb2
                          generalize q'.1 = Wc at *
                          go_wp2_with fail
                          go_roundw
                          case measure => simp [intOf]; omega
                          case rel => exact ⟨q + 1, by omega, by go_num, hvn, HKN⟩
                        · have f0 : (ys == 0) = false := by simpa using hs0
                          have q0 : ∀ q : Qs Wb, q.1.cell? ⟨vy, 0, none⟩ = some (.int .i64 ys) := fun q => q.cell HB.out.1
                          clear hs0 HB HY HS
                          refine wp_region_below (by kernel_rfl) (by kernel_rfl) ?_
                          repeat (go_big_quiet_step (fail))
                          refine wpQuiet_nil ?_
                          rintro _ ⟨q', rfl⟩
                          have HKN : Hid ((Below G W0 q'.1 ∧ OwnB q'.1 G (some ⟨g, 0, none⟩) L c' f) ∧ q'.1.cell? ⟨vs, 1, none⟩ = some (.slice (some ⟨xb, xoff, none⟩) parts.length pc)) := Lib.hid ⟨⟨HKA.out.1.1.trans (q'.2.mono (by have := HKA.out.1.1.size; have := HEG.out; omega)), HKA.out.1.2.below q'.2 (Nat.le_refl _)⟩, q'.cell HKA.out.2⟩
                          have hvn : vs < q'.1.heap.size := by have := q'.2.size; omega
                          clear q0 HKA hvb2
                          generalize q'.1 = Wc at *
                          go_wp2_with fail
                          go_roundw
                          case measure => simp [intOf]; omega
                          case rel => exact ⟨q + 1, by omega, by go_num, hvn, HKN⟩
                      · obtain rfl : q = parts.length := by omega
                        clear hlq hq
                        have HEND := Lib.hid HK.out.1
                        clear HK
                        go_wp2_with fail
                        go_roundw
                        case measure => simp [intOf]
                        case rel => exact ⟨i, (i : Int) - 1, by omega, by omega, by go_num, HEND⟩
              · obtain rfl : k = waves.length := by omega
                clear hlt hk
                have e0 : wr.cell? ⟨vb, 0, none⟩ = some (.int .i64 n) := cell_of_row _ _ 0 _ 32 (0, 0) ((HI.out.1.block vb (by omega)).trans HXW.out)
                obtain ⟨N, rfl⟩ := Int.eq_ofNat_of_zero_le hn0
                have HEND : Hid (OwnB wr G A' N c' (runF ⟨(N : Int), stash, waves.map WvV.wv⟩ orig tl) ∧ Below w.heap.size w wr) := Lib.hid ⟨by
                  have h := OwnB.shrink HI.out.2 N (by omega)
                  have e : fileW ⟨(N : Int), stash, waves.map WvV.wv⟩ orig tl waves.length = fileF ⟨(N : Int), stash, waves.map WvV.wv⟩ orig tl := by
                    rw [← fileW_all]; simp
                  rw [e] at h
                  unfold runF
                  simpa using h, HBW.out.trans (HI.out.1.mono (by have := HBW.out.size; have := HEG.out; omega))⟩
                have hNc : (N : Int) ≤ (c' : Int) := by omega
                have hNn : (0 : Int) ≤ (N : Int) := hn0
                have HNO9 := Lib.hid (Sc.OwnB.none HI.out.2)
                have HGX := Lib.hid ((HGW.out.below (B' := G) HI.out.1 hBG).more (B' := wr.heap.size) (by omega))
                have hgn : gn = N := by
                  have h1 := HGL2.out
                  have h2 := HEND.out.1.1
                  simp only [PlV.pln] at h1
                  omega
                subst hgn
                clear HI
                rcases A' with _ | ⟨g, off, s⟩
                · obtain ⟨h1, h2⟩ := HNO9.out rfl
                  subst h1; subst h2
                  obtain rfl : gn = 0 := by omega
                  go_wp2_with fail
                  refine (Sc.SameB_true none 0 0 GA 0 gc wr (runF ⟨((0 : Nat) : Int), stash, waves.map WvV.wv⟩ orig tl) HEND.out.1.1 HEND.out.1.rd (by omega) rfl HGX.out).mono ?_
                  rintro e w9 ⟨rfl, hb9⟩
                  have HB9 := Lib.hid (HEND.out.2.trans (hb9.mono HEND.out.2.size))
                  clear hb9
                  go_wp2_with fail
                  go_ret
                  exact ⟨rfl, HB9.out⟩
                · go_wp2_with fail
                  refine (Sc.SameB_true (some ⟨g, off, s⟩) gn c' GA gn gc wr (runF ⟨(gn : Int), stash, waves.map WvV.wv⟩ orig tl) HEND.out.1.1 HEND.out.1.rd (by omega) rfl HGX.out).mono ?_
                  rintro e w9 ⟨rfl, hb9⟩
                  have HB9 := Lib.hid (HEND.out.2.trans (hb9.mono HEND.out.2.size))
                  clear hb9
                  go_wp2_with fail
                  go_ret
                  exact ⟨rfl, HB9.out⟩
end Go.Proofs.Yteceephenfmdoaa
