/-
  MovesMakes' law: the plan for any target may be run, and leaves the target's text.
-/
import Derived.Test.YteceephenfmdoaaNAwake
import Derived.Test.YteceephenfmdoaaKWbad
import Derived.Test.YteceephenfmdoaaMSame
import Derived.Test.YteceephenfmdoaaMMay
import Derived.Test.YteceephenfmdoaaLMakesp
import Derived.Test.YteceephenfmdoaaLRefuses
namespace Go.Proofs.Yteceephenfmdoaa
open Go.RowKit
open Sc (RdB OwnB bcells RdBL)
/-- A plan in a box. -/
structure Bxp (W : World) (vb : Nat) (p : PlV) : Prop where
  c : W.heap[vb]? = some (.cells p.cells 32 (0, 0))
  ok : PlOk W W.heap.size p
theorem Bxp.up {W W' : World} {vb : Nat} {p : PlV} (h : Bxp W vb p) (hb : Below W.heap.size W W') : Bxp W' vb p := ⟨(hb.block vb (Array.getElem?_eq_some_iff.1 h.c).1).trans h.c, h.ok.up hb⟩
theorem Bxp.made {W : World} {p : PlV} (h : PlOk W W.heap.size p) : Bxp (W.alloc (.cells p.cells 32)) W.heap.size p := ⟨heap_alloc_new W _, (h.below ((Below.refl _ _).alloc (Nat.le_refl _) _) (Nat.le_refl _)).more (by simp)⟩
theorem Bxp.cells {W : World} {vb : Nat} {n : Int} {SA : Option Addr} {sc : Nat} {stash : List R} {WA : Option Addr} {wq : Nat} {waves : List WvV} (h : Bxp W vb ⟨n, SA, sc, stash, WA, wq, waves⟩) : W.cell? ⟨vb, 0, none⟩ = some (.int .i64 n) ∧ W.cell? ⟨vb, 1, none⟩ = some (.slice SA stash.length sc) ∧ W.cell? ⟨vb, 2, none⟩ = some (.slice WA waves.length wq) :=
  ⟨cell_of_row _ _ 0 _ 32 (0, 0) h.c, cell_of_row _ _ 1 _ 32 (0, 0) h.c, cell_of_row _ _ 2 _ 32 (0, 0) h.c⟩
set_option maxRecDepth 100000 in
set_option maxHeartbeats 8000000 in
theorem makes_walk (OA : Option Addr) (on oc : Nat) (TA : Option Addr) (tn tc : Nat) (PA : Option Addr) (pn pc : Nat) (most : Int) (w : World) (orig tl : List Int) (parts : List S)
    (ho : orig.length = on) (hro : RdB w w.heap.size OA orig) (hoc : on ≤ oc ∧ oc ≤ maxLen) (hno : OA = none → oc = 0) (ht : tl.length = tn) (hrt : RdB w w.heap.size TA tl) (htc : tn ≤ tc ∧ tc ≤ maxLen) (hlen : parts.length = pn) (hrp : Sc.Rd w w.heap.size PA parts) (hI : ∀ x ∈ parts, I64 x.src ∧ I64 x.at_ ∧ I64 x.len) (hm : I64 most) :
    Calls Try.prog 3 #[.slice OA on oc, .slice TA tn tc, .slice PA pn pc, .int .i64 most] w fun e w' => e = .returned (.bool true) ∧ Below w.heap.size w w' := by
  have HO := Lib.hid ho; have HRO := Lib.hid hro; have HNO : Hid (OA = none → on = 0 ∧ oc = 0) := Lib.hid (fun h => by have := hno h; omega)
  have HT := Lib.hid ht; have HRT := Lib.hid hrt
  have HOC := Lib.hid hoc; have HTC := Lib.hid htc
  have HL := Lib.hid hlen; have HRP := Lib.hid hrp; have HI := Lib.hid hI
  have HMO := Lib.hid hm
  clear ho hro hno ht hrt hoc htc hlen hrp hI hm
  cases hlg : longB on tn pn with
  | true =>
    have HLG := Lib.hid hlg
    clear hlg
    go_enter Try.func3, Try.ntmps3
    go_wp2_with fail
    refine (awake_any w).mono ?_
    rintro e w1 ⟨rfl, hb1⟩
    have HB1 := Lib.hid hb1
    clear hb1
    go_wp2_with fail
    refine (long_any OA on oc TA tn tc PA pn pc w1).mono ?_
    rw [HLG.out]
    rintro e w1' ⟨rfl, rfl⟩
    go_wp2_with fail
    refine (awake_any w1).mono ?_
    rintro e w2 ⟨rfl, hb2⟩
    have HB2 := Lib.hid (HB1.out.trans (hb2.mono HB1.out.size))
    clear hb2
    go_wp2_with fail
    go_ret
    exact ⟨rfl, HB2.out⟩
  | false =>
    have HLG := Lib.hid hlg
    obtain ⟨on2, tn2, pn2⟩ := longB_not hlg
    clear hlg
    go_enter Try.func3, Try.ntmps3
    go_wp2_with fail
    refine (awake_any w).mono ?_
    rintro e w1 ⟨rfl, hb1⟩
    have HB1 := Lib.hid hb1
    clear hb1
    go_wp2_with fail
    refine (long_any OA on oc TA tn tc PA pn pc w1).mono ?_
    rw [HLG.out]
    rintro e w1' ⟨rfl, rfl⟩
    go_wp2_with fail
    refine (target_any PA pn pc parts on tn w1 HL.out (HRP.out.up HB1.out) HI.out (by omega) (by omega) (by omega)).mono ?_
    rintro e w2 ⟨⟨LA, ln, lc, rfl, ho2⟩, hb2⟩
    have htm := target_may (size := on) (tail := tn) (by omega) (by omega) (parts := parts) (by have := HL.out; omega)
    have htt := target_tot (size := on) (tail := tn) (by omega) (by omega) (M := 2000) (by omega) parts
    have hte := target_each (size := on) (tail := tn) (by omega) (by omega) (parts := parts)
    have htl := targetL_len parts on tn
    have hplen := HL.out
    have htt2 : Sc.tot (targetL parts on tn) ≤ 60000 := by
      have : (parts.length : Int) * 2000 ≤ 30 * 2000 := by omega
      omega
    generalize targetL parts on tn = l at *
    have hn40 : ln ≤ 30 := by have := ho2.1; omega
    have HB2 := Lib.hid (HB1.out.trans (hb2.mono HB1.out.size))
    have HO2 := Lib.hid ho2
    have HTP : Hid (TargetP l on) := Lib.hid htm
    have HTT := Lib.hid htt2
    have HTE : Hid (∀ s ∈ l, s.src = 1 → s.at_ + s.len ≤ (tn : Int)) := Lib.hid (fun s hs => (hte s hs).2.2.2)
    have HWL := Lib.hid (fun s hs => (hte s hs))
    clear hb2 ho2 htm htt hte htl hplen htt2 HB1
    go_wp2_with fail
    refine (Sc.Lent_any LA ln lc w2 l HO2.out.1 HO2.out.rd (fun h => HO2.out.none h) (by omega)).mono ?_
    rintro e w3 ⟨⟨lg, lc3, rfl, ho3⟩, hb3⟩
    have HB3 := Lib.hid (HB2.out.trans (hb3.mono HB2.out.size))
    have HLENT := Lib.hid ho3.rd
    have hc3 := ho3.cap
    unfold maxLen at hc3
    have HRL := Lib.hid (Sc.Rd.up HO2.out.rd hb3)
    have HLL := Lib.hid HO2.out.1
    clear hb3 ho3 HO2 HB2
    by_cases hmo : most < 1 ∨ 64 < most
    · have HV : Hid (makeE l on most = 1) := Lib.hid (if_pos (by rcases hmo with h | h; exact .inr (.inr (.inr (.inl h))); exact .inr (.inr (.inr (.inr h)))))
      have hmi := HMO.out
      unfold I64 at hmi
      rcases hmo with h1 | h1
      all_goals
        go_wp2_with fail
        refine (make_bad (some ⟨lg, 0, none⟩) ln lc3 l on most w3 HLL.out HLENT.out.left (by omega) (by unfold I64; omega) HMO.out (by rw [HV.out]; decide)).mono ?_
        rintro e w4 ⟨rfl, hb4⟩
        rw [HV.out]
        have HB4 := Lib.hid (HB3.out.trans (hb4.mono HB3.out.size))
        clear hb4
        go_wp2_with fail
        refine (same_zero _).mono ?_
        rintro e w5 ⟨rfl, hb5⟩
        have HB5 : Hid (Below w.heap.size w w5) := Lib.hid ((HB4.out.alloc HB4.out.size _).trans (hb5.mono (by have := HB4.out.size; simp; omega)))
        clear hb5
        go_wp2_with fail
        go_ret
        exact ⟨rfl, HB5.out⟩
    · obtain ⟨μ, rfl⟩ := Int.eq_ofNat_of_zero_le (show 0 ≤ most by omega)
      have m1 : ¬ (μ : Int) < 1 := by omega
      have m2 : ¬ (64 : Int) < (μ : Int) := by omega
      go_wp2_with fail
      refine (make_ok (some ⟨lg, 0, none⟩) ln lc3 l on μ w3 HLL.out HLENT.out.left HTP.out (by omega) (by omega) (by have := HTT.out; omega) (by omega)).mono ?_
      rintro e w4 ⟨⟨p, rfl, hp, hmk⟩, hb4⟩
      have HMW := Lib.hid (hmk.waves HTP.out.may.1 (by omega))
      have HPLN := Lib.hid (hmk.plan HTP.out (by omega) (by have := HTT.out; omega) (by omega) HTE.out)
      have HRUN := Lib.hid (hmk.run (orig := orig) (tail := tl) (by rw [HO.out]; exact HTP.out) (by rw [HT.out]; exact HTE.out) (by have := HTT.out; omega) (by omega))
      have HWLN := Lib.hid (want_len (orig := orig) (tail := tl) (by rw [HO.out]; exact HTP.out) (by rw [HT.out]; exact HTE.out))
      have HHAS := Lib.hid (has_target (orig := orig) (tail := tl) (by rw [HO.out]; exact HTP.out) (by rw [HT.out]; exact HTE.out))
      have hlw := HMW.out.few
      have htot := Sc.tot_nonneg l HTP.out.may.1
      have hwl : p.waves.length ≤ 1000000 := by
        simp only [PlV.pln, List.length_map] at hlw
        have := HTT.out
        unfold blocksN at hlw
        omega
      have hsl : p.stash.length ≤ 100000 := by
        have h1 := right_len p.stash (-1) HPLN.out.2.2.1
        have h2 := right_tot_le (l := p.stash) HPLN.out.2.2.1 on (by omega) HPLN.out.2.2.2.1
        omega
      have HBX : Hid (Bxp (w4.alloc (.cells p.cells 32)) w4.heap.size p) := Lib.hid (Bxp.made hp)
      have hb6 : Below w4.heap.size w4 (w4.alloc (.cells p.cells 32)) := (Below.refl _ _).alloc (Nat.le_refl _) _
      have hb36 := hb4.trans (hb6.mono hb4.size)
      have HB6 := Lib.hid (HB3.out.trans (hb36.mono HB3.out.size))
      have HRL6 := Lib.hid (Sc.Rd.up HRL.out hb36)
      have HLE6 := Lib.hid (Sc.Rd.up HLENT.out hb36)
      clear hb4 hp hmk hlw hb6 hb36 HB3 HRL HLENT
      obtain ⟨zn, SA, sc, stash, WA, wq, waves⟩ := p
      unfold PlV.cells at *
      simp only at hwl hsl
      obtain ⟨wn, hwn⟩ : ∃ wn : Nat, (wantB l orig tl).length = wn := ⟨_, rfl⟩
      have hzn : zn = (wn : Int) := by
        have h1 : zn = Sc.tot l := HMW.out.size
        have h2 := HWLN.out
        omega
      subst hzn
      have HWN := Lib.hid hwn
      have hwn6 : wn ≤ 60000 := by have := HWLN.out; have := HTT.out; omega
      have HTN : Hid (Sc.tot l = (wn : Int)) := Lib.hid (by have := HWLN.out; omega)
      clear hwn HWLN
      have hz6 : (w4.alloc (.cells #[.int .i64 (wn : Int), .slice SA stash.length sc, .slice WA waves.length wq] 32)).heap.size = w4.heap.size + 1 := by simp
      have HZ6 := Lib.hid hz6
      clear hz6
      go_wp2_with fail
      generalize hvb : w4.heap.size = vb at *
      clear hvb
      generalize w4.alloc (.cells #[.int .i64 (wn : Int), .slice SA stash.length sc, .slice WA waves.length wq] 32) = W6 at *
      have HSRC : Hid (RdBL (W6.alloc (.cells #[.slice OA on oc, .slice TA tn tc] 22)) (W6.alloc (.cells #[.slice OA on oc, .slice TA tn tc] 22)).heap.size (some ⟨vb + 1, 0, none⟩) [orig, tl]) := Lib.hid (by
        have h := RdBL.two (HRO.out.up HB6.out) HO.out HOC.out (HRT.out.up HB6.out) HT.out HTC.out 22
        rw [HZ6.out] at h
        exact h)
      have hbs : Below W6.heap.size W6 (W6.alloc (.cells #[.slice OA on oc, .slice TA tn tc] 22)) := (Below.refl _ _).alloc (Nat.le_refl _) _
      have HBS := Lib.hid hbs
      clear hbs
      refine (Sc.refText_any LA ln lc (some ⟨vb + 1, 0, none⟩) 2 2 _ l [orig, tl] HLL.out (Sc.Rd.up HRL6.out HBS.out) (by omega) rfl HSRC.out (by omega)).mono ?_
      rintro e w7 ⟨⟨QA, qn, qc, rfl, ho7⟩, hb7⟩
      have hTE0 : Sc.TextE [orig, tl] l = 0 := by unfold Sc.TextE; rw [if_pos HTP.out.may, Sc.textE_all HHAS.out]
      rw [hTE0]
      rw [Sc.TextL_ok hTE0] at ho7
      have ho7' : OwnB w7 (W6.alloc (.cells #[.slice OA on oc, .slice TA tn tc] 22)).heap.size QA qn qc (wantB l orig tl) := ho7
      obtain rfl : wn = qn := HWN.out.symm.trans ho7'.1
      have HQ := Lib.hid ho7'.rd
      have hqc : wn ≤ qc ∧ qc ≤ maxLen := ho7'.cap
      unfold maxLen at hqc
      have hb67 := HBS.out.trans (hb7.mono HBS.out.size)
      have HB7 := Lib.hid (HB6.out.trans (hb67.mono HB6.out.size))
      have HBX7 := Lib.hid (HBX.out.up hb67)
      have HRL7 := Lib.hid (Sc.Rd.up HRL6.out hb67)
      have HLE7 := Lib.hid (Sc.Rd.up HLE6.out hb67)
      clear hTE0 ho7 ho7' hb7 hb67 HSRC HBS HB6 HBX HRL6 HLE6
      go_wp2_with fail
      refine (Sc.Kept_any (some ⟨lg, 0, none⟩) ln lc3 LA lc w7 l HLL.out HLE7.out hc3.1 (by omega) HRL7.out).mono ?_
      rintro e w8 ⟨rfl, hb8⟩
      have HB8 := Lib.hid (HB7.out.trans (hb8.mono HB7.out.size))
      have HBX8 := Lib.hid (HBX7.out.up hb8)
      have HRL8 := Lib.hid (Sc.Rd.up HRL7.out hb8)
      have HQ8 := Lib.hid (HQ.out.up hb8)
      obtain ⟨c0, c1, c2⟩ := HBX8.out.cells
      have HPB : Hid (planB (PlV.pln ⟨(wn : Int), SA, sc, stash, WA, wq, waves⟩) on tn = true) := Lib.hid (planB_of HPLN.out)
      clear hb8 HB7 HBX7 HRL7 HLE7 HQ
      go_wp2_with fail
      refine (May_any ⟨(wn : Int), SA, sc, stash, WA, wq, waves⟩ on tn w8 HBX8.out.ok (by omega) (by omega) hsl hwl).mono ?_
      rw [HPB.out]
      rintro e w9 ⟨rfl, hb9⟩
      have HB9 := Lib.hid (HB8.out.trans (hb9.mono HB8.out.size))
      have HBX9 := Lib.hid (HBX8.out.up hb9)
      have HRL9 := Lib.hid (Sc.Rd.up HRL8.out hb9)
      have HQ9 := Lib.hid (HQ8.out.up hb9)
      clear hb9 HB8 HBX8 HRL8 HQ8 c0 c1 c2
      obtain ⟨c0, c1, c2⟩ := HBX9.out.cells
      have HCV : Hid (checkV (PlV.pln ⟨(wn : Int), SA, sc, stash, WA, wq, waves⟩) on tn = 0) := Lib.hid (checkV_ok (by omega) HPLN.out)
      go_wp2_with fail
      refine (Check_any ⟨(wn : Int), SA, sc, stash, WA, wq, waves⟩ on tn w9 HBX9.out.ok (by omega) (by omega) (by simp only; omega) hwl).mono ?_
      rw [HCV.out]
      rintro e w10 ⟨rfl, hb10⟩
      have HB10 := Lib.hid (HB9.out.trans (hb10.mono HB9.out.size))
      have HBX10 := Lib.hid (HBX9.out.up hb10)
      have HRL10 := Lib.hid (Sc.Rd.up HRL9.out hb10)
      have HQ10 := Lib.hid (HQ9.out.up hb10)
      clear hb10 HB9 HBX9 HRL9 HQ9 c0 c1 c2
      obtain ⟨c0, c1, c2⟩ := HBX10.out.cells
      go_wp2_with fail
      go_loopw [15] (fun i wx => ∃ k : Nat, k ≤ waves.length ∧ i = .int .i64 k ∧ wx = w10) (fun i _ => waves.length - (intOf i).toNat)
      case atStart => exact ⟨0, Nat.zero_le _, rfl, rfl⟩
      case round =>
        obtain ⟨k, hk, rfl, rfl⟩ := hrel
        by_cases hlt : k < waves.length
        · obtain ⟨v, hv⟩ := Sc.get_some waves k hlt
          obtain ⟨vb2, voff, rfl, hvb2, v0, hvo⟩ := HBX10.out.ok.wv k v hv
          have hve := (HMW.out.each v.wv (List.mem_map.2 ⟨v, List.mem_of_getElem? hv, rfl⟩)).2
          have hvl : v.steps.length ≤ μ := by simpa [WvV.wv] using hve
          obtain ⟨VA, vc, steps⟩ := v
          simp only at v0 hvl
          have fl : ¬ (μ : Int) < (steps.length : Int) := by omega
          clear hv hvo hve
          go_wp2_with fail
          go_roundw
          case measure => simp [intOf]; omega
          case rel => exact ⟨k + 1, by omega, by go_num, trivial⟩
        · obtain rfl : k = waves.length := by omega
          clear hlt hk
          obtain ⟨N, hN⟩ : ∃ N : Nat, blocksN (wn : Int) = N := ⟨(blocksN (wn : Int)).toNat, by unfold blocksN; omega⟩
          have hNb : ∀ j : Nat, j < N ↔ 64 * (j : Int) < (wn : Int) := fun j => by unfold blocksN at hN; omega
          have HNB := Lib.hid hNb
          have hNs : N ≤ 1000 := by unfold blocksN at hN; omega
          have HBN := Lib.hid hN
          have HSUM : Hid (totS waves = (N : Int) - (staysN l N : Int)) := Lib.hid (by
            have h1 := HMW.out.sum
            rw [HTN.out, HBN.out] at h1
            have h2 := sumS_map waves
            have h3 : sumS waves = ((waves.map WvV.wv).map List.length).sum := h2
            have h4 : ((waves.map WvV.wv).map List.length).sum + staysN l (N : Int).toNat = (N : Int).toNat := h1
            rw [Int.toNat_natCast] at h4
            rw [totS_eq (by omega)]
            omega)
          clear hNb hN
          go_wp2_with fail
          clear c0 c1 c2
          go_loopw [16, 17] (fun v i wx => ∃ b : Nat, b ≤ N ∧ i = .int .i64 b ∧ v = .int .i64 (staysN l b : Int) ∧ Hid (Below wr.heap.size wr wx)) (fun _ i _ => N - (intOf i).toNat)
          case atStart => exact ⟨0, Nat.zero_le _, rfl, by simp [staysN], Lib.hid (Below.refl _ _)⟩
          case round =>
            obtain ⟨b, hb, rfl, rfl, HJ⟩ := hrel
            have hst := staysN_le l b
            go_wp2_with fail
            refine (Blocks_any (wn : Int) _ (by omega) (by omega)).mono ?_
            rw [HBN.out]
            rintro e w11 ⟨rfl, rfl⟩
            by_cases hlb : b < N
            · have h64 : 64 * (b : Int) < (wn : Int) := (HNB.out b).1 hlb
              have q1 : IntKind.i64.wrap (64 * (b : Int)) = 64 * (b : Int) := IntWalk.i64_in _ (by omega)
              obtain ⟨m, hmm⟩ : ∃ m : Int, min (64 : Int) ((wn : Int) - 64 * (b : Int)) = m := ⟨_, rfl⟩
              have hm0 : 1 ≤ m ∧ m ≤ 64 := by omega
              have HPC := Lib.hid (piece_blk HTP.out.may (b := b) (by rw [HTN.out]; exact h64) (m := m) (by rw [HTN.out]; exact hmm.symm))
              have HSN := Lib.hid (staysN_next l b)
              go_wp2_with fail
              refine (Sc.refPiece_any LA ln lc (64 * (b : Int)) m _ l HLL.out (Sc.Rd.up HRL10.out HJ.out) (by omega) (by omega) (by omega) (by omega) (by omega)).mono ?_
              rintro e w12 ⟨⟨XA, xn, xc, rfl, ho12⟩, hb12⟩
              rw [HPC.out.1]
              have HB12 := Lib.hid (HJ.out.trans (hb12.mono HJ.out.size))
              have HXL := Lib.hid ho12.1
              have HXR := Lib.hid ho12.rd
              have HIF := Lib.hid HPC.out.2
              generalize Sc.pieceL l (64 * (b : Int)) m = X at *
              clear ho12 hb12 hmm HPC HJ
              by_cases hst2 : Stays l b
              · obtain ⟨x, hX, hx0, hx1⟩ := HIF.out.1 hst2
                subst hX
                obtain rfl : xn = 1 := by have := HXL.out; simp at this; omega
                obtain ⟨xb, xoff, rfl, hxb, d0, d1, d2⟩ := HXR.out 0 x rfl
                simp only [Nat.zero_mul, Nat.add_zero] at d0 d1 d2
                rw [hx0] at d0
                rw [hx1] at d1
                have HS1 : Hid ((staysN l (b + 1) : Int) = (staysN l b : Int) + 1) := Lib.hid (by rw [HSN.out, if_pos hst2]; omega)
                have hz : (0 : Nat) < 1 := by omega
                clear hst2 hx0 hx1
                go_wp2_with fail
                go_roundw
                case measure => simp [intOf]; omega
                case rel => exact ⟨b + 1, by omega, by go_num, by rw [HS1.out], HB12⟩
              · have HS1 : Hid ((staysN l (b + 1) : Int) = (staysN l b : Int)) := Lib.hid (by rw [HSN.out, if_neg hst2]; omega)
                by_cases hx1 : xn = 1
                · subst hx1
                  obtain ⟨x, hX⟩ : ∃ x, X = [x] := by
                    have := HXL.out
                    cases X with
                    | nil => simp at this
                    | cons x t => cases t with
                      | nil => exact ⟨x, rfl⟩
                      | cons y t => simp at this
                  subst hX
                  obtain ⟨xb, xoff, rfl, hxb, d0, d1, d2⟩ := HXR.out 0 x rfl
                  simp only [Nat.zero_mul, Nat.add_zero] at d0 d1 d2
                  have hz : (0 : Nat) < 1 := by omega
                  by_cases hx0 : x.src = 0
                  · have hx2 : x.at_ ≠ 64 * (b : Int) := fun h => hst2 (HIF.out.2 ⟨x, rfl, hx0, h⟩)
                    have f0 : (x.src == 0) = true := by simpa using hx0
                    have f1 : (x.at_ == 64 * (b : Int)) = false := by simpa using hx2
                    clear hst2 hx0 hx2
                    go_wp2_with fail
                    go_roundw
                    case measure => simp [intOf]; omega
                    case rel => exact ⟨b + 1, by omega, by go_num, by rw [HS1.out], HB12⟩
                  · have f0 : (x.src == 0) = false := by simpa using hx0
                    clear hst2 hx0
                    go_wp2_with fail
                    go_roundw
                    case measure => simp [intOf]; omega
                    case rel => exact ⟨b + 1, by omega, by go_num, by rw [HS1.out], HB12⟩
                · have f1 : ((xn : Int) == 1) = false := by simp; omega
                  clear hst2 hx1
                  go_wp2_with fail
                  go_roundw
                  case measure => simp [intOf]; omega
                  case rel => exact ⟨b + 1, by omega, by go_num, by rw [HS1.out], HB12⟩
            · obtain rfl : b = N := by omega
              clear hlb hb
              have HBR : Hid (Below w.heap.size w wr) := Lib.hid (HB10.out.trans (HJ.out.mono HB10.out.size))
              have HBXR := Lib.hid (HBX10.out.up HJ.out)
              have HQR := Lib.hid (HQ10.out.up HJ.out)
              obtain ⟨c0, c1, c2⟩ := HBXR.out.cells
              clear HJ
              go_wp2_with fail
              refine (Run_ok ⟨(wn : Int), SA, sc, stash, WA, wq, waves⟩ orig tl OA on oc TA tn tc wr HBXR.out.ok HPLN.out HO.out (HRO.out.up HBR.out) HOC.out HNO.out HT.out (HRT.out.up HBR.out) HTC.out (by omega) (by omega) hwl).mono ?_
              rw [HRUN.out]
              rintro e w12 ⟨⟨GA, gn, gc, rfl, ho12⟩, hb12⟩
              obtain rfl : wn = gn := HWN.out.symm.trans ho12.1
              have HG := Lib.hid ho12.rd
              have HQ12 := Lib.hid (HQR.out.up hb12)
              have HBX12 := Lib.hid (HBXR.out.up hb12)
              have HB12 := Lib.hid (HBR.out.trans (hb12.mono HBR.out.size))
              clear ho12 hb12 c0 c1 c2
              go_wp2_with fail
              refine (Sc.SameB_true GA wn gc QA wn qc w12 (wantB l orig tl) HWN.out HG.out (by omega) rfl HQ12.out).mono ?_
              rintro e w13 ⟨rfl, hb13⟩
              have HBX13 := Lib.hid (HBX12.out.up hb13)
              have HB13 := Lib.hid (HB12.out.trans (hb13.mono HB12.out.size))
              clear hb13
              obtain ⟨c0, c1, c2⟩ := HBX13.out.cells
              go_wp2_with fail
              refine (MTotal_any ⟨(wn : Int), SA, sc, stash, WA, wq, waves⟩ w13 HBX13.out.ok).mono ?_
              simp only [HSUM.out]
              rintro e w14 ⟨rfl, hb14⟩
              have HB14 := Lib.hid (HB13.out.trans (hb14.mono HB13.out.size))
              clear hb14 c0 c1 c2
              go_wp2_with fail
              refine (Blocks_any (wn : Int) _ (by omega) (by omega)).mono ?_
              rw [HBN.out]
              rintro e w15 ⟨rfl, rfl⟩
              go_wp2_with fail
              go_ret
              exact ⟨rfl, HB14.out⟩
end Go.Proofs.Yteceephenfmdoaa
