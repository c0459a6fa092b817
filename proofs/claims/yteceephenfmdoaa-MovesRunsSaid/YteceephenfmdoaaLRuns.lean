/-
  MovesRuns' law: a plan that was made, and changed in any places, is run just if it may be, and leaves what the document says; what is handed in stays.
-/
import Derived.Test.YteceephenfmdoaaLMakes
import Derived.Test.YteceephenfmdoaaNRef
import Derived.Test.YteceephenfmdoaaNRunb
import Derived.Test.YteceephenfmdoaaNChangec
namespace Go.Proofs.Yteceephenfmdoaa
open Go.RowKit
open Sc (RdB OwnB bcells RdBL)
/-- A change: what, which wave, which step, by how much. -/
structure Chg where
  how : Int
  wave : Int
  at_ : Int
  by_ : Int
def RdC (w : World) (B : Nat) (A : Option Addr) (l : List Chg) : Prop := ∀ k c, l[k]? = some c → ∃ b off, A = some ⟨b, off, none⟩ ∧ b < B ∧ w.cell? ⟨b, off + k * 4, none⟩ = some (.int .i64 c.how) ∧ w.cell? ⟨b, off + k * 4 + 1, none⟩ = some (.int .i64 c.wave) ∧ w.cell? ⟨b, off + k * 4 + 2, none⟩ = some (.int .i64 c.at_) ∧ w.cell? ⟨b, off + k * 4 + 3, none⟩ = some (.int .i64 c.by_)
theorem PlV.cells_inj {p q : PlV} (h : p.cells = q.cells) : p.size = q.size ∧ p.SA = q.SA ∧ p.stash.length = q.stash.length ∧ p.sc = q.sc ∧ p.WA = q.WA ∧ p.waves.length = q.waves.length ∧ p.wc = q.wc := by
  unfold PlV.cells at h
  injection h with h
  injection h with h0 h
  injection h with h1 h
  injection h with h2 h
  injection h0 with _ h0
  injection h1 with a1 a2 a3
  injection h2 with b1 b2 b3
  exact ⟨h0, a1, a2, a3, b1, b2, b3⟩
/-- A made plan is small. -/
theorem PlanP.sml {p : PlV} {on tn : Int} (h : PlanP p.pln on tn) (hs : p.stash.length ≤ 100000) (hw : p.waves.length ≤ 100000) : Sml p 64 64 := by
  refine ⟨hs, hw, fun v hv => ?_⟩
  obtain ⟨k, hk⟩ := List.getElem?_of_mem hv
  have hvw : (p.waves.map WvV.wv)[k]? = some v.wv := by rw [List.getElem?_map, hk]; rfl
  obtain ⟨wr, h1, h2, h3, _⟩ := wavesP_at _ _ _ _ h.2.2.2.2 hvw
  refine ⟨by simpa [WvV.wv] using h2, fun s hs' => ?_⟩
  have h4 := h3 s.st (List.mem_map.2 ⟨s, hs', rfl⟩)
  have h5 := Sc.len_le_tot s.parts h4.2.2.1.1
  have h6 := h4.2.2.2.2.1
  simp only [StV.st] at h6
  omega
set_option maxRecDepth 100000 in
set_option maxHeartbeats 8000000 in
theorem runs_walk (OA : Option Addr) (on oc : Nat) (TA : Option Addr) (tn tc : Nat) (PA : Option Addr) (pn pc : Nat) (most : Int) (CA : Option Addr) (cn cc : Nat) (w : World) (orig tl : List Int) (parts : List S) (chs : List Chg)
    (ho : orig.length = on) (hro : RdB w w.heap.size OA orig) (hoc : on ≤ oc ∧ oc ≤ maxLen) (hno : OA = none → oc = 0) (ht : tl.length = tn) (hrt : RdB w w.heap.size TA tl) (htc : tn ≤ tc ∧ tc ≤ maxLen) (hlen : parts.length = pn) (hrp : Sc.Rd w w.heap.size PA parts) (hI : ∀ x ∈ parts, I64 x.src ∧ I64 x.at_ ∧ I64 x.len) (hm : I64 most)
    (hcl : chs.length = cn) (hrc : RdC w w.heap.size CA chs) (hcI : ∀ x ∈ chs, I64 x.how ∧ I64 x.wave ∧ I64 x.at_ ∧ I64 x.by_) (hcc : cn ≤ 9223372036854775807) :
    Calls Try.prog 6 #[.slice OA on oc, .slice TA tn tc, .slice PA pn pc, .int .i64 most, .slice CA cn cc] w fun e w' => e = .returned (.bool true) ∧ Below w.heap.size w w' := by
  have HO := Lib.hid ho; have HRO := Lib.hid hro; have HNO : Hid (OA = none → on = 0 ∧ oc = 0) := Lib.hid (fun h => by have := hno h; omega)
  have HT := Lib.hid ht; have HRT := Lib.hid hrt
  have HOC := Lib.hid hoc; have HTC := Lib.hid htc
  have HL := Lib.hid hlen; have HRP := Lib.hid hrp; have HI := Lib.hid hI
  have HCL := Lib.hid hcl; have HRC := Lib.hid hrc; have HCI := Lib.hid hcI
  unfold I64 at hm
  clear ho hro hno ht hrt hoc htc hlen hrp hI hcl hrc hcI
  cases hlg : longB on tn pn with
  | true =>
    have HLG := Lib.hid hlg
    clear hlg
    go_enter Try.func6, Try.ntmps6
    go_wp2_with fail
    refine (awake_any w).mono ?_
    rintro e w1 ⟨rfl, hb1⟩
    have HB1 := Lib.hid hb1
    clear hb1
    go_wp2_with fail
    refine (long_any OA on oc TA tn tc PA pn pc w1).mono ?_
    rw [HLG.out]
    rintro e w1' ⟨rfl, rfl⟩
    go_wp2_with fail
    refine (awake_any w1).mono ?_
    rintro e w2 ⟨rfl, hb2⟩
    have HB2 := Lib.hid (HB1.out.trans (hb2.mono HB1.out.size))
    clear hb2
    go_wp2_with fail
    go_ret
    exact ⟨rfl, HB2.out⟩
  | false =>
    have HLG := Lib.hid hlg
    obtain ⟨on2, tn2, pn2⟩ := longB_not hlg
    have e0 := Int.emod_nonneg most (show (64 : Int) ≠ 0 by omega)
    have e1 := Int.emod_lt_of_pos most (show (0 : Int) < 64 by omega)
    obtain ⟨μ, hμ⟩ : ∃ μ : Nat, 1 + most % 64 = (μ : Int) := ⟨(1 + most % 64).toNat, by omega⟩
    have q4 : IntKind.i64.wrap (1 + most % 64) = (μ : Int) := by rw [IntWalk.i64_in _ (by omega)]; exact hμ
    have HMU : Hid (1 ≤ μ ∧ μ ≤ 64) := Lib.hid (by omega)
    clear hlg e0 e1 hμ
    go_enter Try.func6, Try.ntmps6
    go_wp2_with fail
    refine (awake_any w).mono ?_
    rintro e w1 ⟨rfl, hb1⟩
    have HB1 := Lib.hid hb1
    clear hb1
    go_wp2_with fail
    refine (long_any OA on oc TA tn tc PA pn pc w1).mono ?_
    rw [HLG.out]
    rintro e w1' ⟨rfl, rfl⟩
    go_wp2_with fail
    refine (target_any PA pn pc parts on tn w1 HL.out (HRP.out.up HB1.out) HI.out (by omega) (by omega) (by omega)).mono ?_
    rintro e w2 ⟨⟨LA, ln, lc, rfl, ho2⟩, hb2⟩
    have htm := target_may (size := on) (tail := tn) (by omega) (by omega) (parts := parts) (by have := HL.out; omega)
    have htt := target_tot (size := on) (tail := tn) (by omega) (by omega) (M := 2000) (by omega) parts
    have hte := target_each (size := on) (tail := tn) (by omega) (by omega) (parts := parts)
    have hplen := HL.out
    have htt2 : Sc.tot (targetL parts on tn) ≤ 60000 := by
      have : (parts.length : Int) * 2000 ≤ 30 * 2000 := by omega
      omega
    generalize targetL parts on tn = l at *
    have HB2 := Lib.hid (HB1.out.trans (hb2.mono HB1.out.size))
    have HRL := Lib.hid ho2.rd
    have HLL := Lib.hid ho2.1
    have HTP : Hid (TargetP l on) := Lib.hid htm
    have HTT := Lib.hid htt2
    have HTE : Hid (∀ s ∈ l, s.src = 1 → s.at_ + s.len ≤ (tn : Int)) := Lib.hid (fun s hs => (hte s hs).2.2.2)
    clear hb2 ho2 htm htt hte hplen htt2 HB1
    go_wp2_with fail
    refine (Pick_any most 64 w2 (by omega) (by omega) hm.1 hm.2).mono ?_
    rintro e w3 ⟨rfl, rfl⟩
    go_wp2_with fail
    refine (make_ok LA ln lc l on μ w2 HLL.out HRL.out HTP.out (by omega) HMU.out (by have := HTT.out; omega) (by omega)).mono ?_
    rintro e w4 ⟨⟨p, rfl, hp, hmk⟩, hb4⟩
    have hlw := (hmk.waves HTP.out.may.1 (by have := HMU.out; omega)).few
    have hpln := hmk.plan HTP.out (by omega) (by have := HTT.out; omega) HMU.out HTE.out
    have htot := Sc.tot_nonneg l HTP.out.may.1
    have hwl : p.waves.length ≤ 100000 := by
      simp only [PlV.pln, List.length_map] at hlw
      have := HTT.out
      unfold blocksN at hlw
      omega
    have hsl : p.stash.length ≤ 100000 := by
      have h1 := right_len p.stash (-1) hpln.2.2.1
      have h2 := right_tot_le (l := p.stash) hpln.2.2.1 on (by omega) hpln.2.2.2.1
      omega
    have HSML : Hid (Sml p 64 64) := Lib.hid (hpln.sml hsl hwl)
    have HBX : Hid (Bxp (w4.alloc (.cells p.cells 32)) w4.heap.size p) := Lib.hid (Bxp.made hp)
    have hb6 : Below w4.heap.size w4 (w4.alloc (.cells p.cells 32)) := (Below.refl _ _).alloc (Nat.le_refl _) _
    have hvw : w.heap.size ≤ w4.heap.size := by have := HB2.out.size; have := hb4.size; omega
    have HB6 := Lib.hid (HB2.out.trans ((hb4.trans (hb6.mono hb4.size)).mono HB2.out.size))
    clear hb4 hp hmk hlw hb6 HB2 HRL HLL HTP HTT HTE htot hpln hwl hsl
    obtain ⟨n0, SA0, sc0, stash0, WA0, wq0, waves0⟩ := p
    unfold PlV.cells at *
    simp only at *
    go_upto_block 0 with (fail)
    have hvs : w4.heap.size < (w4.alloc (.cells #[.int .i64 n0, .slice SA0 stash0.length sc0, .slice WA0 waves0.length wq0] 32)).heap.size := by simp
    generalize w4.heap.size = vb at *
    generalize w4.alloc (.cells #[.int .i64 n0, .slice SA0 stash0.length sc0, .slice WA0 waves0.length wq0] 32) = W6 at *
    go_cut [13] (fun _ wx => ∃ q : PlV, vb < wx.heap.size ∧ Hid (Bxp wx vb q ∧ Sml q 68 64 ∧ Below w.heap.size w wx))
    case first =>
      go_wp2_with fail
      go_loopw [13] (fun i wx => ∃ (k : Nat) (q : PlV), k ≤ cn ∧ k ≤ 4 ∧ i = .int .i64 k ∧ vb < wx.heap.size ∧ Hid (Bxp wx vb q ∧ Sml q (64 + k) 64 ∧ Below w.heap.size w wx)) (fun i _ => 4 - (intOf i).toNat)
      case atStart => exact ⟨0, ⟨n0, SA0, sc0, stash0, WA0, wq0, waves0⟩, Nat.zero_le _, Nat.zero_le _, rfl, hvs, Lib.hid ⟨HBX.out, HSML.out, HB6.out⟩⟩
      case round =>
        clear HBX HSML HB6 hvs
        obtain ⟨k, q, hk, hk4, rfl, hvr, HJ⟩ := hrel
        by_cases hlt1 : k < cn
        · by_cases hlt2 : k < 4
          · obtain ⟨c, hc⟩ := Sc.get_some chs k (by have := HCL.out; omega)
            obtain ⟨cb, coff, rfl, hcb, d0, d1, d2, d3⟩ := HRC.out k c hc
            have hci := HCI.out c (List.mem_of_getElem? hc)
            have t0 : wr.cell? ⟨cb, coff + k * 4, none⟩ = some (.int .i64 c.how) := (HJ.out.2.2.cell (p := ⟨cb, coff + k * 4, none⟩) (by simp only; omega)).trans d0
            have t1 : wr.cell? ⟨cb, coff + k * 4 + 1, none⟩ = some (.int .i64 c.wave) := (HJ.out.2.2.cell (p := ⟨cb, coff + k * 4 + 1, none⟩) (by simp only; omega)).trans d1
            have t2 : wr.cell? ⟨cb, coff + k * 4 + 2, none⟩ = some (.int .i64 c.at_) := (HJ.out.2.2.cell (p := ⟨cb, coff + k * 4 + 2, none⟩) (by simp only; omega)).trans d2
            have t3 : wr.cell? ⟨cb, coff + k * 4 + 3, none⟩ = some (.int .i64 c.by_) := (HJ.out.2.2.cell (p := ⟨cb, coff + k * 4 + 3, none⟩) (by simp only; omega)).trans d3
            obtain ⟨how, wave, at_, by_⟩ := c
            obtain ⟨n, SA, sc, stash, WA, wq, waves⟩ := q
            simp only at t0 t1 t2 t3 hci
            have HCH : Hid (Calls Try.prog 31 #[.agg #[.int .i64 n, .slice SA stash.length sc, .slice WA waves.length wq], .agg #[.int .i64 how, .int .i64 wave, .int .i64 at_, .int .i64 by_]] wr.drew fun e w' => (∃ q0 : PlV, e = .returned (.agg q0.cells) ∧ ∀ wf : World, w'.heap.size ≤ wf.heap.size → (∀ b, wr.heap.size ≤ b → wf.heap[b]? = w'.heap[b]?) → ∃ q : PlV, PlOk wf wf.heap.size q ∧ q.cells = q0.cells ∧ Sml q (64 + k + 1) 64) ∧ Below wr.heap.size wr.drew w') := Lib.hid (changed_any ⟨n, SA, sc, stash, WA, wq, waves⟩ how wave at_ by_ (64 + k) wr.drew (HJ.out.1.ok.keep (w' := wr.drew) fun _ _ => rfl) HJ.out.2.1 (by omega) hci.1 hci.2.1 hci.2.2.1 hci.2.2.2)
            have hbx : wr.heap[vb]? = some (.cells #[.int .i64 n, .slice SA stash.length sc, .slice WA waves.length wq] 32 (0, 0)) := HJ.out.1.c
            have c0 : wr.cell? ⟨vb, 0, none⟩ = some (.int .i64 n) := cell_of_row _ _ 0 _ 32 (0, 0) hbx
            have c1 : wr.cell? ⟨vb, 1, none⟩ = some (.slice SA stash.length sc) := cell_of_row _ _ 1 _ 32 (0, 0) hbx
            have c2 : wr.cell? ⟨vb, 2, none⟩ = some (.slice WA waves.length wq) := cell_of_row _ _ 2 _ 32 (0, 0) hbx
            have HBXR := Lib.hid hbx
            have HBR := Lib.hid HJ.out.2.2
            have g0 : (0 : Int) ≤ (k : Int) := by omega
            have g1 : (k : Int) < (cn : Int) := by omega
            have g2 : (k : Int) < 4 := by omega
            clear hc d0 d1 d2 d3 hci hbx HJ
            go_wp2_with fail
            go_region_law ((go_simp; go_at_call 31; refine HCH.out.mono ?_; rintro e w8 ⟨⟨⟨n9, SA9, sc9, st9, WA9, wq9, wv9⟩, rfl, hev⟩, hb8⟩; have hb8' : Below wr.heap.size wr w8 := (Below.refl wr.heap.size wr).drew.trans hb8; have hbx8 := (hb8'.block vb hvr).trans HBXR.out; have b0 : w8.cell? ⟨vb, 0, none⟩ = some (.int .i64 n) := cell_of_row _ _ 0 _ 32 (0, 0) hbx8; have b1 : w8.cell? ⟨vb, 1, none⟩ = some (.slice SA stash.length sc) := cell_of_row _ _ 1 _ 32 (0, 0) hbx8; have b2 : w8.cell? ⟨vb, 2, none⟩ = some (.slice WA waves.length wq) := cell_of_row _ _ 2 _ 32 (0, 0) hbx8; have z0 : w8.frozen? ⟨vb, 0, none⟩ = false := frozen_of_row _ _ 0 _ _ hbx8; have z1 : w8.frozen? ⟨vb, 1, none⟩ = false := frozen_of_row _ _ 1 _ _ hbx8; have z2 : w8.frozen? ⟨vb, 2, none⟩ = false := frozen_of_row _ _ 2 _ _ hbx8; have HEV := Lib.hid hev; have HB8 := Lib.hid hb8'; have HX8 := Lib.hid hbx8; clear hev hb8 hb8' hbx8; simp only [PlV.cells] at HEV ⊢))
            all_goals
              have hh := three_heap HX8.out (.int .i64 n9) (.slice SA9 st9.length sc9) (.slice WA9 wv9.length wq9)
              have hsame : ∀ b, wr.heap.size ≤ b → (((w8.setCell ⟨vb, 0, none⟩ (.int .i64 n9)).setCell ⟨vb, 1, none⟩ (.slice SA9 st9.length sc9)).setCell ⟨vb, 2, none⟩ (.slice WA9 wv9.length wq9)).heap[b]? = w8.heap[b]? := fun b hb => by
                rw [heap_setCell_other _ _ _ _ (by simp only; omega), heap_setCell_other _ _ _ _ (by simp only; omega), heap_setCell_other _ _ _ _ (by simp only; omega)]
              obtain ⟨q', hq1, hq2, hq3⟩ := HEV.out _ (by simp) hsame
              have hbel : Below w.heap.size w (((w8.setCell ⟨vb, 0, none⟩ (.int .i64 n9)).setCell ⟨vb, 1, none⟩ (.slice SA9 st9.length sc9)).setCell ⟨vb, 2, none⟩ (.slice WA9 wv9.length wq9)) := (((HBR.out.trans (HB8.out.mono HBR.out.size)).setCell (p := ⟨vb, 0, none⟩) hvw _).setCell (p := ⟨vb, 1, none⟩) hvw _).setCell (p := ⟨vb, 2, none⟩) hvw _
              have hvn : vb < (((w8.setCell ⟨vb, 0, none⟩ (.int .i64 n9)).setCell ⟨vb, 1, none⟩ (.slice SA9 st9.length sc9)).setCell ⟨vb, 2, none⟩ (.slice WA9 wv9.length wq9)).heap.size := (Array.getElem?_eq_some_iff.1 hh).1
              have HN : Hid (Bxp (((w8.setCell ⟨vb, 0, none⟩ (.int .i64 n9)).setCell ⟨vb, 1, none⟩ (.slice SA9 st9.length sc9)).setCell ⟨vb, 2, none⟩ (.slice WA9 wv9.length wq9)) vb q' ∧ Sml q' (64 + (k + 1)) 64 ∧ Below w.heap.size w (((w8.setCell ⟨vb, 0, none⟩ (.int .i64 n9)).setCell ⟨vb, 1, none⟩ (.slice SA9 st9.length sc9)).setCell ⟨vb, 2, none⟩ (.slice WA9 wv9.length wq9))) := Lib.hid ⟨⟨by unfold PlV.cells; rw [hq2]; exact hh, hq1⟩, hq3, hbel⟩
              clear b0 b1 b2 z0 z1 z2 HEV HB8 HX8 hh hsame hq1 hq2 hq3 hbel c0 c1 c2 t0 t1 t2 t3 HCH
              go_wp2_with fail
              go_roundw
              case measure => simp [intOf]; omega
              case rel => exact ⟨k + 1, q', by omega, by omega, by go_num, hvn, HN⟩
          · obtain rfl : k = 4 := by omega
            have HEND := Lib.hid HJ.out
            clear HJ
            go_wp2_with fail
            go_meet
            exact ⟨q, hvr, HEND⟩
        · have HEND : Hid (Bxp wr vb q ∧ Sml q 68 64 ∧ Below w.heap.size w wr) := Lib.hid ⟨HJ.out.1, HJ.out.2.1.more (by omega), HJ.out.2.2⟩
          clear HJ
          go_wp2_with fail
          go_meet
          exact ⟨q, hvr, HEND⟩
    case rest =>
      obtain ⟨q, hvc, HC⟩ := hcut
      clear HBX HSML HB6 hvs
      obtain ⟨n, SA, sc, stash, WA, wq, waves⟩ := q
      have hsm1 := HC.out.2.1.1
      have hsm2 := HC.out.2.1.2.1
      simp only at hsm1 hsm2
      obtain ⟨c0, c1, c2⟩ := HC.out.1.cells
      go_wp2_with fail
      refine (Copy_plan ⟨n, SA, sc, stash, WA, wq, waves⟩ wc HC.out.1.ok (by simp only; omega) (by simp only; omega) (fun v hv => ⟨by have := (HC.out.2.1.2.2 v hv).1; omega, fun s hs => by have := (HC.out.2.1.2.2 v hv).2 s hs; omega⟩)).mono ?_
      rintro e w7 ⟨⟨q2, rfl, hqe, hqo⟩, hb7⟩
      have HQ7 : Hid (PlOk w7 w7.heap.size q2) := Lib.hid (hqo.ok_of hqe HC.out.1.ok)
      have hba : Below w7.heap.size w7 (w7.alloc (.cells q2.cells 32)) := (Below.refl _ _).alloc (Nat.le_refl _) _
      have HQX : Hid (Bxp (w7.alloc (.cells q2.cells 32)) w7.heap.size q2) := Lib.hid (Bxp.made HQ7.out)
      have HBX8 := Lib.hid ((HC.out.1.up hb7).up hba)
      have HB8 := Lib.hid (HC.out.2.2.trans ((hb7.trans (hba.mono hb7.size)).mono HC.out.2.2.size))
      have HQE := Lib.hid hqe
      have HQW : Hid (q2.stash.length = stash.length ∧ q2.waves.length = waves.length) := Lib.hid (by
        have h := hqe
        simp only [PlV.pln, Pln.mk.injEq] at h
        refine ⟨by rw [h.2.1], ?_⟩
        have := congrArg List.length h.2.2
        simpa using this)
      clear hqe hqo hb7 hba HQ7 HC c0 c1 c2
      obtain ⟨n2, SA2, sc2, stash2, WA2, wq2, waves2⟩ := q2
      unfold PlV.cells at *
      simp only at *
      go_wp2_with fail
      have hvs8 : w7.heap.size < (w7.alloc (.cells #[.int .i64 n2, .slice SA2 stash2.length sc2, .slice WA2 waves2.length wq2] 32)).heap.size := by simp
      generalize w7.heap.size = qb at *
      generalize w7.alloc (.cells #[.int .i64 n2, .slice SA2 stash2.length sc2, .slice WA2 waves2.length wq2] 32) = W8 at *
      refine (Sc.LentB_any OA on oc W8 orig HO.out (HRO.out.up HB8.out) (by omega)).mono ?_
      rintro e w9 ⟨⟨ga, ca, rfl, hoa⟩, hb9⟩
      have HA9 := Lib.hid hoa.rd
      have hca := hoa.cap
      have HBX9 := Lib.hid (HBX8.out.up hb9)
      have HQX9 := Lib.hid (HQX.out.up hb9)
      have HB9 := Lib.hid (HB8.out.trans (hb9.mono HB8.out.size))
      clear hoa hb9 HBX8 HQX HB8
      go_wp2_with fail
      refine (Sc.LentB_any TA tn tc w9 tl HT.out (HRT.out.up HB9.out) (by omega)).mono ?_
      rintro e w10 ⟨⟨gb, cb, rfl, hob⟩, hb10⟩
      have HA10 := Lib.hid (HA9.out.up hb10)
      have HT10 := Lib.hid hob.rd
      have hcb := hob.cap
      have HBX10 := Lib.hid (HBX9.out.up hb10)
      have HQX10 := Lib.hid (HQX9.out.up hb10)
      have HB10 := Lib.hid (HB9.out.trans (hb10.mono HB9.out.size))
      clear hob hb10 HBX9 HQX9 HB9 HA9
      unfold maxLen at hca hcb
      obtain ⟨d0, d1, d2⟩ := HQX10.out.cells
      by_cases hpl : PlanP (PlV.pln ⟨n, SA, sc, stash, WA, wq, waves⟩) on tn
      · have HPL := Lib.hid hpl
        have HPB := Lib.hid (planB_of hpl)
        have HPL2 : Hid (PlanP (PlV.pln ⟨n2, SA2, sc2, stash2, WA2, wq2, waves2⟩) on tn) := Lib.hid (by rw [HQE.out]; exact hpl)
        clear hpl
        go_wp2_with fail
        refine (Run_ok ⟨n2, SA2, sc2, stash2, WA2, wq2, waves2⟩ orig tl (some ⟨ga, 0, none⟩) on ca (some ⟨gb, 0, none⟩) tn cb w10 HQX10.out.ok HPL2.out HO.out HA10.out.left (by unfold maxLen; omega) (fun h => by cases h) HT.out HT10.out.left (by unfold maxLen; omega) (by omega) (by omega) (by have := HQW.out.2; simp only; omega)).mono ?_
        rintro e w11 ⟨⟨GA, gn, gc, rfl, ho11⟩, hb11⟩
        rw [HQE.out] at ho11
        have HG := Lib.hid ho11.rd
        have HGL := Lib.hid ho11.1
        have HA11 := Lib.hid (HA10.out.up hb11)
        have HT11 := Lib.hid (HT10.out.up hb11)
        have HBX11 := Lib.hid (HBX10.out.up hb11)
        have HQX11 := Lib.hid (HQX10.out.up hb11)
        have HB11 := Lib.hid (HB10.out.trans (hb11.mono HB10.out.size))
        clear ho11 hb11 HA10 HT10 HBX10 HQX10 HB10 d0 d1 d2
        obtain ⟨c0, c1, c2⟩ := HBX11.out.cells
        obtain ⟨d0, d1, d2⟩ := HQX11.out.cells
        go_wp2_with fail
        refine (Same_plans ⟨n, SA, sc, stash, WA, wq, waves⟩ ⟨n2, SA2, sc2, stash2, WA2, wq2, waves2⟩ w11 HBX11.out.ok HQX11.out.ok HQE.out.symm).mono ?_
        rintro e w12 ⟨rfl, hb12⟩
        have HG12 := Lib.hid (HG.out.up hb12)
        have HA12 := Lib.hid (HA11.out.up hb12)
        have HT12 := Lib.hid (HT11.out.up hb12)
        have HBX12 := Lib.hid (HBX11.out.up hb12)
        have HB12 := Lib.hid (HB11.out.trans (hb12.mono HB11.out.size))
        clear hb12 HG HA11 HT11 HBX11 HQX11 HB11 c0 c1 c2 d0 d1 d2
        go_wp2_with fail
        refine (Sc.KeptB_any (some ⟨ga, 0, none⟩) on ca OA oc w12 orig HO.out HA12.out (by omega) (by omega) (HRO.out.up HB12.out)).mono ?_
        rintro e w13 ⟨rfl, hb13⟩
        have HG13 := Lib.hid (HG12.out.up hb13)
        have HT13 := Lib.hid (HT12.out.up hb13)
        have HBX13 := Lib.hid (HBX12.out.up hb13)
        have HB13 := Lib.hid (HB12.out.trans (hb13.mono HB12.out.size))
        clear hb13 HG12 HA12 HT12 HBX12 HB12
        go_wp2_with fail
        refine (Sc.KeptB_any (some ⟨gb, 0, none⟩) tn cb TA tc w13 tl HT.out HT13.out (by omega) (by omega) (HRT.out.up HB13.out)).mono ?_
        rintro e w14 ⟨rfl, hb14⟩
        have HG14 := Lib.hid (HG13.out.up hb14)
        have HBX14 := Lib.hid (HBX13.out.up hb14)
        have HB14 := Lib.hid (HB13.out.trans (hb14.mono HB13.out.size))
        clear hb14 HG13 HT13 HBX13 HB13
        obtain ⟨c0, c1, c2⟩ := HBX14.out.cells
        go_wp2_with fail
        refine (May_any ⟨n, SA, sc, stash, WA, wq, waves⟩ on tn w14 HBX14.out.ok (by omega) (by omega) (by simp only; omega) (by simp only; omega)).mono ?_
        rw [HPB.out]
        rintro e w15 ⟨rfl, hb15⟩
        have HG15 := Lib.hid (HG14.out.up hb15)
        have HBX15 := Lib.hid (HBX14.out.up hb15)
        have HB15 := Lib.hid (HB14.out.trans (hb15.mono HB14.out.size))
        clear hb15 HG14 HBX14 HB14 c0 c1 c2
        obtain ⟨c0, c1, c2⟩ := HBX15.out.cells
        go_wp2_with fail
        refine (RefRun_ok ⟨n, SA, sc, stash, WA, wq, waves⟩ orig tl OA on oc TA tn tc w15 HBX15.out.ok HPL.out HO.out (HRO.out.up HB15.out) HOC.out HT.out (HRT.out.up HB15.out) HTC.out (by omega) (by omega) (by simp only; omega)).mono ?_
        rintro e w16 ⟨⟨RA, rn, rc, rfl, ho16⟩, hb16⟩
        have HG16 := Lib.hid (HG15.out.up hb16)
        have HR16 := Lib.hid ho16.rd
        have HRN := Lib.hid ho16.1
        have HB16 := Lib.hid (HB15.out.trans (hb16.mono HB15.out.size))
        clear ho16 hb16 HG15 HBX15 HB15 c0 c1 c2
        have hfl : (fileF (PlV.pln ⟨n, SA, sc, stash, WA, wq, waves⟩) orig tl).length ≤ 2000000 := by
          have h := fileW_len (p := PlV.pln ⟨n, SA, sc, stash, WA, wq, waves⟩) (orig := orig) (tail := tl) (by rw [HO.out, HT.out]; exact HPL.out) (PlV.pln ⟨n, SA, sc, stash, WA, wq, waves⟩).waves.length
          rw [fileW_all] at h
          have h1 := HPL.out.2.1
          have h2 := HO.out
          omega
        have hrl : gn ≤ 2000000 := by
          have h := HGL.out
          unfold runF at h
          rw [List.length_take] at h
          omega
        go_wp2_with fail
        refine (Sc.SameB_true GA gn gc RA rn rc w16 (runF (PlV.pln ⟨n, SA, sc, stash, WA, wq, waves⟩) orig tl) HGL.out HG16.out (by omega) (by have h1 := HGL.out; have h2 := HRN.out; omega) HR16.out).mono ?_
        rintro e w17 ⟨rfl, hb17⟩
        have HB17 := Lib.hid (HB16.out.trans (hb17.mono HB16.out.size))
        clear hb17
        go_wp2_with fail
        go_ret
        exact ⟨rfl, HB17.out⟩
      · have HPL := Lib.hid hpl
        have HPB := Lib.hid (planB_not hpl)
        have HPL2 : Hid (¬ PlanP (PlV.pln ⟨n2, SA2, sc2, stash2, WA2, wq2, waves2⟩) on tn) := Lib.hid (by rw [HQE.out]; exact hpl)
        have HCV : Hid (checkV (PlV.pln ⟨n, SA, sc, stash, WA, wq, waves⟩) on tn = 4) := Lib.hid (checkV_bad (by omega) hpl)
        clear hpl
        go_wp2_with fail
        refine (Run_bad ⟨n2, SA2, sc2, stash2, WA2, wq2, waves2⟩ (some ⟨ga, 0, none⟩) on ca (some ⟨gb, 0, none⟩) tn cb w10 HQX10.out.ok HPL2.out (by unfold maxLen; omega) (by unfold maxLen; omega) (by have := HQW.out.1; simp only; omega) (by have := HQW.out.2; simp only; omega)).mono ?_
        rintro e w11 ⟨rfl, hb11⟩
        have HA11 := Lib.hid (HA10.out.up hb11)
        have HT11 := Lib.hid (HT10.out.up hb11)
        have HBX11 := Lib.hid (HBX10.out.up hb11)
        have HQX11 := Lib.hid (HQX10.out.up hb11)
        have HB11 := Lib.hid (HB10.out.trans (hb11.mono HB10.out.size))
        clear hb11 HA10 HT10 HBX10 HQX10 HB10 d0 d1 d2
        obtain ⟨c0, c1, c2⟩ := HBX11.out.cells
        obtain ⟨d0, d1, d2⟩ := HQX11.out.cells
        go_wp2_with fail
        refine (Same_plans ⟨n, SA, sc, stash, WA, wq, waves⟩ ⟨n2, SA2, sc2, stash2, WA2, wq2, waves2⟩ w11 HBX11.out.ok HQX11.out.ok HQE.out.symm).mono ?_
        rintro e w12 ⟨rfl, hb12⟩
        have HA12 := Lib.hid (HA11.out.up hb12)
        have HT12 := Lib.hid (HT11.out.up hb12)
        have HBX12 := Lib.hid (HBX11.out.up hb12)
        have HB12 := Lib.hid (HB11.out.trans (hb12.mono HB11.out.size))
        clear hb12 HA11 HT11 HBX11 HQX11 HB11 c0 c1 c2 d0 d1 d2
        go_wp2_with fail
        refine (Sc.KeptB_any (some ⟨ga, 0, none⟩) on ca OA oc w12 orig HO.out HA12.out (by omega) (by omega) (HRO.out.up HB12.out)).mono ?_
        rintro e w13 ⟨rfl, hb13⟩
        have HT13 := Lib.hid (HT12.out.up hb13)
        have HBX13 := Lib.hid (HBX12.out.up hb13)
        have HB13 := Lib.hid (HB12.out.trans (hb13.mono HB12.out.size))
        clear hb13 HA12 HT12 HBX12 HB12
        go_wp2_with fail
        refine (Sc.KeptB_any (some ⟨gb, 0, none⟩) tn cb TA tc w13 tl HT.out HT13.out (by omega) (by omega) (HRT.out.up HB13.out)).mono ?_
        rintro e w14 ⟨rfl, hb14⟩
        have HBX14 := Lib.hid (HBX13.out.up hb14)
        have HB14 := Lib.hid (HB13.out.trans (hb14.mono HB13.out.size))
        clear hb14 HT13 HBX13 HB13
        obtain ⟨c0, c1, c2⟩ := HBX14.out.cells
        go_wp2_with fail
        refine (May_any ⟨n, SA, sc, stash, WA, wq, waves⟩ on tn w14 HBX14.out.ok (by omega) (by omega) (by simp only; omega) (by simp only; omega)).mono ?_
        rw [HPB.out]
        rintro e w15 ⟨rfl, hb15⟩
        have HBX15 := Lib.hid (HBX14.out.up hb15)
        have HB15 := Lib.hid (HB14.out.trans (hb15.mono HB14.out.size))
        clear hb15 HBX14 HB14 c0 c1 c2
        obtain ⟨c0, c1, c2⟩ := HBX15.out.cells
        go_wp2_with fail
        refine (Check_any ⟨n, SA, sc, stash, WA, wq, waves⟩ on tn w15 HBX15.out.ok (by omega) (by omega) (by simp only; omega) (by simp only; omega)).mono ?_
        rw [HCV.out]
        rintro e w16 ⟨rfl, hb16⟩
        have HB16 := Lib.hid (HB15.out.trans (hb16.mono HB15.out.size))
        clear hb16
        go_wp2_with fail
        go_ret
        exact ⟨rfl, HB16.out⟩
end Go.Proofs.Yteceephenfmdoaa
