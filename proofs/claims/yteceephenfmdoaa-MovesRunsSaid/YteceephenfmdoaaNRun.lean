/-
  Run: what it leaves.
-/
import Derived.Test.YteceephenfmdoaaNRow
import Derived.Test.YteceephenfmdoaaMCheck
import Derived.Deep.RegionHeld3
import Derived.Deep.RegionLaw
import Derived.StillTailTactics
namespace Go.Proofs.Yteceephenfmdoaa
open Go.RowKit
open Sc (RdB OwnB bcells RdBL)
def RunR (w : World) (b : List Int) (e : Ending) (w' : World) : Prop := (∃ A n c, e = .returned (.tuple #[.slice A n c, .int .i64 0]) ∧ OwnB w' w.heap.size A n c b) ∧ Below w.heap.size w w'
theorem grown_step {a w w' : World} {row : Option Nat} {o : Obj} (h1 : a.grownBy w row) (h2 : (w.alloc o).drew.grownBy w' row) : a.grownBy w' row :=
  ⟨h2.os.trans h1.os, h2.tape.trans h1.tape, h2.output.trans h1.output, by have := h1.size; have := h2.size; simp at this; omega, fun k hk hne => by
    have hs := h1.size
    rw [h2.block k (by simp; omega) hne]
    exact (heap_alloc_old w o (by omega)).trans (h1.block k hk hne)⟩
theorem step_copy_told {w w' : World} {o : Oper} {a : Act} {K : Act → World → Prop} {Q : Exit → Act → World → Prop} {ops : Array Oper} {E : Prop} (hgd : o.guard = none) (s x : Operand) (ho : o.op = .call { callee := .builtin .copy, args := #[s, x], argTypes := #[22, 22] }) (v u r : Value) (hs : a.eval s = v) (hx : a.eval x = u) (hrun : (Builtin.copy_ #[22, 22] o.type #[v, u]).run Try.prog w = .ok r w') (h : K (a.put o.dst r) w') :
    if Region.wanted o (yielded ops a.tmps) = true then Oper.wp Try.prog o a w K Q else E := by
  have hw : Region.wanted o (yielded ops a.tmps) = true := by simp [Region.wanted, hgd]
  rw [if_pos hw]
  unfold Oper.wp execOp
  simp only [ho, resolve, invoke, builtin, Sem.run_bind, Sem.run_pure, Result.andThen_ok, List.map_toArray, List.map_cons, List.map_nil, hs, hx, hrun]
  exact h
set_option maxRecDepth 100000 in
set_option maxHeartbeats 4000000 in
theorem Run_ok (p : PlV) (orig tl : List Int) (OA : Option Addr) (on oc : Nat) (TA : Option Addr) (tn tc : Nat) (w : World) (hP : PlOk w w.heap.size p) (hPl : PlanP p.pln on tn) (ho : orig.length = on) (hro : RdB w w.heap.size OA orig) (hoc : on ≤ oc ∧ oc ≤ maxLen) (hno : OA = none → on = 0 ∧ oc = 0)
    (ht : tl.length = tn) (hrt : RdB w w.heap.size TA tl) (htc : tn ≤ tc ∧ tc ≤ maxLen) (hon : on ≤ 100000) (htn : tn ≤ 100000) (hwl : p.waves.length ≤ 1000000) :
    Calls Try.prog 23 #[.agg p.cells, .slice OA on oc, .slice TA tn tc] w fun e w' => RunR w (runF p.pln orig tl) e w' := by
  obtain ⟨i0, hi, hz0, hz1, hz2⟩ := info_parts Sc.info5
  obtain ⟨k0, ki, kz0, kz1, kz2⟩ := info_parts info22
  have hcv : checkV p.pln on tn = 0 := checkV_ok (by omega) hPl
  have HCV := Lib.hid hcv
  have HPL := Lib.hid hPl
  have HP := Lib.hid hP
  have HO := Lib.hid ho; have HRO := Lib.hid hro; have HNO := Lib.hid hno
  have HT := Lib.hid ht; have HRT := Lib.hid hrt; have HTC := Lib.hid htc
  have hsl : p.stash.length ≤ 100000 := by
    have h1 := right_len p.stash (-1) hPl.2.2.1
    have h2 := right_tot_le hPl.2.2.1 on (by omega) hPl.2.2.2.1
    simp only [PlV.pln] at h1 h2; omega
  have hn0 : 0 ≤ p.size := hPl.1
  have hn1 : p.size ≤ 1048576 := hPl.2.1
  have HSL : Hid (p.stash.length ≤ 1099511627776 ∧ p.waves.length ≤ 1000000) := Lib.hid ⟨by omega, hwl⟩
  unfold maxLen at hoc htc
  have hb1 : Below w.heap.size w (w.alloc (.cells p.cells 32)) := (Below.refl _ _).alloc (Nat.le_refl _) _
  have HX1 : Hid ((w.alloc (.cells p.cells 32)).heap[w.heap.size]? = some (.cells p.cells 32 (0, 0))) := Lib.hid (heap_alloc_new w _)
  have HB1 := Lib.hid hb1
  have HP1 := Lib.hid (hP.below hb1 (Nat.le_refl _))
  have HZ1 : Hid ((w.alloc (.cells p.cells 32)).heap.size = w.heap.size + 1) := Lib.hid (by simp)
  clear hcv hPl hP ho hro hno ht hrt htc hb1
  obtain ⟨n, SA, sc, stash, WA, wq, waves⟩ := p
  simp only at hsl hn0 hn1 hwl
  have HQL : Hid (PlanP ⟨n, stash, waves.map WvV.wv⟩ on tn) := HPL
  clear HPL
  have HRR : Hid (Right stash ∧ ∀ r ∈ stash, r.2 ≤ (on : Int)) := Lib.hid ⟨HQL.out.2.2.1, HQL.out.2.2.2.1⟩
  unfold PlV.cells at *
  simp only at *
  go_enter Try.func23, Try.ntmps23
  go_wp2_with fail
  generalize w.alloc (.cells #[.int .i64 n, .slice SA stash.length sc, .slice WA waves.length wq] 32) = W1 at *
  refine (Check_any ⟨n, SA, sc, stash, WA, wq, waves⟩ on tn W1 (HP1.out.more (by have := HZ1.out; omega)) (by omega) (by omega) HSL.out.1 HSL.out.2).mono ?_
  rw [HCV.out]
  rintro e w2 ⟨rfl, hb2⟩
  have HB2 := Lib.hid (HB1.out.trans (hb2.mono HB1.out.size))
  have HX2 := Lib.hid ((hb2.block _ (Array.getElem?_eq_some_iff.1 HX1.out).1).trans HX1.out)
  have HZ2 : Hid (w.heap.size + 1 ≤ w2.heap.size) := Lib.hid (by have := hb2.size; have := HZ1.out; omega)
  have HP2 := Lib.hid (HP.out.below HB2.out (Nat.le_refl _))
  have HRO2 := Lib.hid (HRO.out.below HB2.out (Nat.le_refl _))
  have HRT2 := Lib.hid (HRT.out.below HB2.out (Nat.le_refl _))
  have c1 : w2.cell? ⟨w.heap.size, 1, none⟩ = some (.slice SA stash.length sc) := cell_of_row _ _ 1 _ 32 (0, 0) HX2.out
  have c2 : w2.cell? ⟨w.heap.size, 2, none⟩ = some (.slice WA waves.length wq) := cell_of_row _ _ 2 _ 32 (0, 0) HX2.out
  clear hb2 HB1 HX1 HZ1 HP1 HSL HCV HP HRO HRT
  generalize hpb : w.heap.size = pb at *
  have HPB := Lib.hid hpb
  clear hpb
  go_wp2_with fail
  generalize hB2 : w2.heap.size = B2 at *
  have HEB2 := Lib.hid hB2
  clear hB2
  go_loopw [9, 34] (fun v i wr => ∃ (k : Nat) (A : Option Addr) (m c : Nat), k ≤ stash.length ∧ i = .int .i64 k ∧ v = .slice A m c ∧ m ≤ on ∧ Hid (OwnB wr B2 A m c (stashB orig (stash.take k)) ∧ Below B2 w2 wr)) (fun _ i _ => stash.length - (intOf i).toNat)
  case atStart => exact ⟨0, none, 0, 0, Nat.zero_le _, rfl, rfl, Nat.zero_le _, Lib.hid ⟨by simpa [stashB] using Sc.OwnB.nil w2 B2, Below.refl _ _⟩⟩
  case round =>
    obtain ⟨k, A, m, c, hk, rfl, rfl, hm, HI⟩ := hrel
    have hsz : B2 ≤ wr.heap.size := by have := HI.out.2.size; have := HEB2.out; omega
    by_cases hlt : k < stash.length
    · obtain ⟨r, hr⟩ := Sc.get_some stash k hlt
      obtain ⟨b, off, rfl, hbb, d0, d1⟩ := (HP2.out.st.below HI.out.2 (by have := HZ2.out; omega)) k r hr
      have hin := List.mem_of_getElem? hr
      have hrm := right_mem HRR.out.1 hin
      have hrt := HRR.out.2 r hin
      have hnx := stashB_next orig hr
      have hml : ((stashB orig (stash.take (k + 1))).length : Int) ≤ on := by
        have h1 := right_tot_le (right_take HRR.out.1 (k + 1)) on (by omega) (fun s hs => HRR.out.2 s (List.mem_of_mem_take hs))
        have h2 := stash_len (stash.take (k + 1)) (-1) orig (by omega) (right_take HRR.out.1 (k + 1)) (fun s hs => by have := HRR.out.2 s (List.mem_of_mem_take hs); have := HO.out; omega)
        omega
      rw [hnx, List.length_append] at hml
      have HNX := Lib.hid hnx
      obtain ⟨f, t⟩ := r
      simp only at d0 d1 hrm hrt hml
      obtain ⟨φ, rfl⟩ := Int.eq_ofNat_of_zero_le (show 0 ≤ f by omega)
      obtain ⟨τ, rfl⟩ := Int.eq_ofNat_of_zero_le (show 0 ≤ t by omega)
      simp only [Int.toNat_natCast] at HNX hml
      have hft : φ < τ := by omega
      have hto : τ ≤ on := by omega
      have htn : ((τ : Int) - (φ : Int)).toNat = τ - φ := by omega
      rw [htn] at HNX hml
      have hpl : ((orig.drop φ).take (τ - φ)).length = τ - φ := by rw [List.length_take, List.length_drop]; have := HO.out; omega
      have HPLL := Lib.hid hpl
      have hmm : m + (τ - φ) ≤ on := by rw [hpl, HI.out.1.1] at hml; omega
      obtain ⟨u, hu⟩ := Sc.get_some orig 0 (by have := HO.out; omega)
      obtain ⟨ob, ooff, rfl, hob, _⟩ := HRO2.out 0 u hu
      have HPI := Lib.hid (((HRO2.out.below HI.out.2 (by have := HZ2.out; omega)).piece φ (τ - φ)).more (B' := wr.heap.size) (by have := HZ2.out; omega))
      have hck : (oc = φ) = False := by simp; omega
      have hsub : (τ : Int) - (φ : Int) = ((τ - φ : Nat) : Int) := by omega
      clear hr hin hrm hrt hnx hml htn hpl hu
      go_wp2_with (at_builtin; (refine wpList_append_own _ rfl _ _ 22 rfl B2 5 i0 _ 1 1 Try.underlying22 hi hz0 hz1 hz2 rfl (by decide) _ _ _ rfl (HI.out.1.alloc _).2 _ _ _ (bcells ((orig.drop φ).take (τ - φ))) rfl ?c0 ?c1 ?c2 ?c3 ?c4 ?c5 ?_))
      case c0 => rw [bcells, List.length_map, HPLL.out]; omega
      case c1 => exact (HPI.out.alloc (Nat.le_refl _) _).cells
      case c2 => exact Sc.bcells_one _
      case c3 => unfold maxLen; omega
      case c4 => omega
      case c5 => simp; omega
      intro v' w5 hown' hgrow _
      obtain ⟨⟨A'', c'', hv, hown2⟩, hb5, _, hz3, hcl⟩ := Sc.appB_step HI.out.1 HI.out.2 hsz ((Below.refl _ _).alloc (Nat.le_refl _) _) HPLL.out hown' hgrow
      rw [hv]
      have HN := Lib.hid hown2
      have HB5 := Lib.hid hb5
      clear hcl hgrow hown' hv hown2 hb5 hz3 d0 d1 HPI
      go_wp2
      go_roundw
      case rel => exact ⟨k + 1, A'', m + (τ - φ), c'', by omega, by go_num, rfl, hmm, Lib.hid ⟨by rw [HNX.out]; exact HN.out, HB5.out⟩⟩
      case measure => simp [intOf]; omega
    · obtain rfl : k = stash.length := by omega
      clear hlt hk
      rw [List.take_length] at HI
      have HPW : Hid (PlOk wr pb ⟨n, SA, sc, stash, WA, wq, waves⟩) := Lib.hid (HP2.out.below HI.out.2 (by have := HZ2.out; omega))
      have HROW := Lib.hid (HRO2.out.below HI.out.2 (by have := HZ2.out; omega))
      have HRTW := Lib.hid (HRT2.out.below HI.out.2 (by have := HZ2.out; omega))
      have HXW := Lib.hid ((HI.out.2.block pb (by have := HZ2.out; omega)).trans HX2.out)
      have HBW := Lib.hid (HB2.out.trans (HI.out.2.mono (by have := HZ2.out; omega)))
      have HST := Lib.hid HI.out.1
      have e0 : wr.cell? ⟨pb, 0, none⟩ = some (.int .i64 n) := cell_of_row _ _ 0 _ 32 (0, 0) HXW.out
      have hpbw : pb < wr.heap.size := by have := HZ2.out; omega
      clear c1 c2 HI HP2 HRO2 HRT2 HX2 HB2
      go_upto_region 10 with (fail)
      have hz : ∃ z : Nat, max (0 : Int) (n - on) = (z : Int) ∧ z = n.toNat - on := ⟨n.toNat - on, by omega, rfl⟩
      obtain ⟨z, hmx, hzz⟩ := hz
      have HZZ := Lib.hid hzz
      have hz1m : z ≤ 1048576 := by omega
      have hwr : IntKind.i64.wrap (n - on) = n - on := IntWalk.i64_in _ (by omega)
      clear hzz
      go_cut [12] (fun v wx => ∃ (g c' : Nat), v = .slice (some ⟨g, 0, none⟩) (on + z) c' ∧ Hid (OwnB wx wr.heap.size (some ⟨g, 0, none⟩) (on + z) c' (orig ++ List.replicate z 0) ∧ Below wr.heap.size wr wx))
      case first =>
        go_region_held3 (fun w' => w'.cell? ⟨pb, 0, none⟩ = some (.int .i64 n)) (first | exact e0 | (exact ((hb5.cell (p := ⟨pb, 0, none⟩) hpbw).trans e0)) | (exact ((hb6.cell (p := ⟨pb, 0, none⟩) hpbw).trans e0)) | (go_keep; done))
          ((first
            | (refine Sc.step_append_litB (by rfl) (.tmp 47) (.tmp 48) (by rfl) wr (by first | exact belowDrewN ((Below.refl _ _).alloc (Nat.le_refl _) _) 1) _ (by rfl) (by first | exact Sc.lit_one _) (by omega) OA on oc orig (by rfl) HO.out (HROW.out.more (by omega)) HNO.out (by omega) ?_; intro g5 k5 w5 hown5 hgrow5 hat5 hlt5 hb5)
            | (refine Sc.step_append_zerosB (by rfl) (.tmp 49) (.tmp 55) (by rfl) wr.heap.size _ _ _ (by rfl) orig hown5 z (by rfl) hz1m (by omega) (by have := hb5.size; omega) ?_; intro g6 k6 w6 hown6 hgrow6 hat6 hlt6; have hb6 : Below wr.heap.size wr w6 := hb5.grown hgrow6 hb5.size (fun k hk => by injection hk with hk; have := (OwnB.block hown5).1; omega))
            | fail))
        all_goals
          have HO6 := Lib.hid hown6
          have HB6 := Lib.hid hb6
          clear hown5 hgrow5 hat5 hlt5 hb5 hown6 hgrow6 hat6 hlt6 hb6
          go_wp2_with fail
          go_meet
          exact ⟨g6, k6, rfl, Lib.hid ⟨HO6.out, HB6.out⟩⟩
      case rest =>
        obtain ⟨g, c6, rfl, HC⟩ := hcut
        have HLL : Hid (((on + z : Nat) : Int) = max (on : Int) n) := Lib.hid (by have := HZZ.out; omega)
        have hLb : on + z ≤ 1148576 := by omega
        have hnL : n ≤ ((on + z : Nat) : Int) := by have := HLL.out; omega
        have hoL : on ≤ on + z := by omega
        have HF0 : Hid (OwnB wc wr.heap.size (some ⟨g, 0, none⟩) (on + z) c6 (fileW ⟨n, stash, waves.map WvV.wv⟩ orig tl 0)) := Lib.hid (by
          have h := HC.out.1
          have e : z = n.toNat - orig.length := by rw [HO.out]; exact HZZ.out
          rw [e] at h
          rw [e]
          exact h)
        have HB0 := Lib.hid HC.out.2
        have HGB := Lib.hid (OwnB.block HC.out.1)
        have hc6 := HGB.out.2.2.1
        have hc7 : c6 ≤ 9223372036854775807 := by have := HGB.out.2.2.2.1; unfold maxLen at this; omega
        have hgg : wr.heap.size ≤ g := HGB.out.1
        clear HC hmx hwr HZZ hz1m e0 HGB
        generalize on + z = L at *
        clear z
        have e2 : wc.cell? ⟨pb, 2, none⟩ = some (.slice WA waves.length wq) := cell_of_row _ _ 2 _ 32 (0, 0) ((HB0.out.block pb (by omega)).trans HXW.out)
        have hBG : B2 ≤ wr.heap.size := hsz
        go_wp2_with fail
        clear e2
        generalize hG : wr.heap.size = G at *
        have HEG := Lib.hid hG
        clear hG hsz
        generalize wr = W0 at *
        have HSTL : Hid ((stashB orig stash).length = m ∧ (m : Int) = tot stash) := Lib.hid ⟨HST.out.1, by
          have h1 := stash_len stash (-1) orig (by omega) HRR.out.1 (fun r hr => by have := HRR.out.2 r hr; have := HO.out; omega)
          have h2 := HST.out.1
          omega⟩
        have HSTC := Lib.hid HST.out.cap
        have HSTR : Hid (RdB W0 G A (stashB orig stash)) := Lib.hid (by have h := HST.out.rd; rw [HEG.out] at h; exact h)
        go_loopw [60] (fun i wx => ∃ k : Nat, k ≤ waves.length ∧ i = .int .i64 k ∧ Hid (Below G W0 wx ∧ OwnB wx G (some ⟨g, 0, none⟩) L c6 (fileW ⟨n, stash, waves.map WvV.wv⟩ orig tl k))) (fun i _ => waves.length - (intOf i).toNat)
        case atStart => exact ⟨0, Nat.zero_le _, rfl, Lib.hid ⟨HB0.out, HF0.out⟩⟩
        case round =>
          clear HB0 HF0
          obtain ⟨k, hk, rfl, HI⟩ := hrel
          by_cases hlt : k < waves.length
          · obtain ⟨v, hv⟩ := Sc.get_some waves k hlt
            have hGw : G ≤ wr.heap.size := by have := HI.out.1.size; have := HEG.out; omega
            obtain ⟨wb, woff, rfl, hwb, w0, hwv⟩ := (HPW.out.wv.below HI.out.1 (by omega)) k v hv
            have hvw : (waves.map WvV.wv)[k]? = some v.wv := by rw [List.getElem?_map, hv]; rfl
            obtain ⟨wrr, hWV⟩ := wavesP_at _ _ _ _ HQL.out.2.2.2.2 hvw
            have HWV := Lib.hid hWV.2.2.1
            have hvl : v.steps.length ≤ 64 := by have := hWV.2.1; simpa [WvV.wv] using this
            have HFN := Lib.hid (fileW_next (p := ⟨n, stash, waves.map WvV.wv⟩) (orig := orig) (tail := tl) hvw)
            generalize hf : fileW ⟨n, stash, waves.map WvV.wv⟩ orig tl k = f at *
            have hfl : f.length = L := HI.out.2.1
            have HFL := Lib.hid hfl
            have HVW : Hid (∀ (j : Nat) s, v.steps[j]? = some s → v.wv[j]? = some s.st) := Lib.hid (fun j s h => by simp [WvV.wv, h])
            have HVL : Hid (v.wv.length = v.steps.length) := Lib.hid (by simp [WvV.wv])
            generalize v.wv = V at *
            obtain ⟨VA, vc, steps⟩ := v
            simp only at w0 hvl HVW HVL
            have HVO := Lib.hid hwv
            have hvc : steps.length ≤ vc ∧ vc ≤ 9223372036854775807 := hwv.cap
            clear hv hwv hvw hWV hf hfl
            have HFB : Hid (OwnB wr G (some ⟨g, 0, none⟩) L c6 f) := Lib.hid HI.out.2
            have HBI := Lib.hid HI.out.1
            have HSTW := Lib.hid ((HSTR.out.below HI.out.1 (Nat.le_refl _)).more hGw)
            have HRTV := Lib.hid ((HRTW.out.below HI.out.1 (by omega)).more (B' := wr.heap.size) (by omega))
            have hwbm : wb < wr.heap.size := by omega
            have hpbm : pb < wr.heap.size := by omega
            clear HI
            -- the texts
            go_wp2_with fail
            generalize hBm : wr.heap.size = Bm at *
            have HBm := Lib.hid hBm
            clear hBm
            generalize wr = Wv at *
            go_loopw [15, 66] (fun v i wx => ∃ (j : Nat) (MA : Option Addr) (mc : Nat) (T : List TxV), j ≤ steps.length ∧ i = .int .i64 j ∧ v = .slice MA j mc ∧ Hid (Below Bm Wv wx ∧ Txs wx Bm MA j mc T ∧ T.map TxV.t = (V.take j).map fun s => Sc.textB [f, tl, stashB orig stash] s.2)) (fun _ i _ => steps.length - (intOf i).toNat)
            case atStart => exact ⟨0, none, 0, [], Nat.zero_le _, rfl, rfl, Lib.hid ⟨Below.refl _ _, ⟨OwnL.nil _ _, fun v hv => by cases hv⟩, by simp⟩⟩
            case round =>
              obtain ⟨j, MA, mc, T, hj, rfl, rfl, HJ⟩ := hrel
              have hmc := HJ.out.2.1.row.cap
              unfold maxLen at hmc
              have hszj : Bm ≤ wr.heap.size := by have := HJ.out.1.size; have := HBm.out; omega
              by_cases hlj : j < steps.length
              · obtain ⟨s, hs⟩ := Sc.get_some steps j hlj
                obtain ⟨sb, soff, rfl, hsb, s0, s1, hso⟩ := HVO.out.rd j s hs
                have hsv := HVW.out j s hs
                have htx := (HWV.out s.st (List.mem_of_getElem? hsv)).text (f := f) (t := tl) (st := stashB orig stash) (by have := HFL.out; omega) (by have := HFL.out; show n ≤ _; omega) hn1 (by have := HT.out; omega) (by have := HSTL.out.1; have := HSTL.out.2; show tot stash ≤ _; omega)
                have HTK := Lib.hid (Sc.take_snoc V j s.st hsv)
                obtain ⟨blk, PA, pc, parts⟩ := s
                simp only at s0 s1
                simp only [StV.st] at htx HTK
                have HTX := Lib.hid htx
                have HSO := Lib.hid hso
                have hpl : parts.length ≤ 9223372036854775807 := Nat.le_trans hso.cap.1 hso.cap.2
                have t0 : wr.cell? ⟨sb, soff + j * 2, none⟩ = some (.int .i64 blk) := (HJ.out.1.cell (p := ⟨sb, soff + j * 2, none⟩) (by simp only; omega)).trans s0
                have t1 : wr.cell? ⟨sb, soff + j * 2 + 1, none⟩ = some (.slice PA parts.length pc) := (HJ.out.1.cell (p := ⟨sb, soff + j * 2 + 1, none⟩) (by simp only; omega)).trans s1
                have hb5 : Below wr.heap.size wr (wr.alloc (.cells #[.int .i64 blk, .slice PA parts.length pc] 70)) := (Below.refl _ _).alloc (Nat.le_refl _) _
                have hbv5 := HJ.out.1.trans (hb5.mono hszj)
                have hz5 : (wr.alloc (.cells #[.int .i64 blk, .slice PA parts.length pc] 70)).heap.size = wr.heap.size + 1 := by simp
                have HSRC : Hid (RdBL ((wr.alloc (.cells #[.int .i64 blk, .slice PA parts.length pc] 70)).alloc (.cells #[.slice (some ⟨g, 0, none⟩) L c6, .slice TA tn tc, .slice A m c] 22)) ((wr.alloc (.cells #[.int .i64 blk, .slice PA parts.length pc] 70)).alloc (.cells #[.slice (some ⟨g, 0, none⟩) L c6, .slice TA tn tc, .slice A m c] 22)).heap.size (some ⟨wr.heap.size + 1, 0, none⟩) [f, tl, stashB orig stash]) := Lib.hid (by
                  have h := RdBL.three (w := wr.alloc (.cells #[.int .i64 blk, .slice PA parts.length pc] 70)) (A := some ⟨g, 0, none⟩) (n := L) (c := c6) (A1 := TA) (n1 := tn) (c1 := tc) (A2 := A) (n2 := m) (c2 := c) (l := f) (l1 := tl) (l2 := stashB orig stash) ((HFB.out.rd.below hbv5 (by have := HBm.out; omega)).more (by have := HBm.out; omega)) HFL.out ⟨hc6, hc7⟩ ((HRTV.out.below hbv5 (Nat.le_refl _)).more (by omega)) HT.out HTC.out ((HSTW.out.below hbv5 (Nat.le_refl _)).more (by omega)) HSTL.out.1 HSTC.out 22
                  rw [hz5] at h
                  exact h)
                have hb6 : Below wr.heap.size wr ((wr.alloc (.cells #[.int .i64 blk, .slice PA parts.length pc] 70)).alloc (.cells #[.slice (some ⟨g, 0, none⟩) L c6, .slice TA tn tc, .slice A m c] 22)) := hb5.alloc (by omega) _
                have HRP := Lib.hid (((HSO.out.rd.below HJ.out.1 (by omega)).more (B' := wr.heap.size) (by omega)).up hb6)
                have HB6 := Lib.hid hb6
                have HZ6 : Hid (((wr.alloc (.cells #[.int .i64 blk, .slice PA parts.length pc] 70)).alloc (.cells #[.slice (some ⟨g, 0, none⟩) L c6, .slice TA tn tc, .slice A m c] 22)).heap.size = wr.heap.size + 2) := Lib.hid (by simp)
                clear hs s0 s1 hso hsv htx hb5 hbv5 hz5 hb6
                go_wp2_with fail
                refine (Sc.Text_any PA parts.length pc (some ⟨wr.heap.size + 1, 0, none⟩) 3 3 _ parts [f, tl, stashB orig stash] rfl HRP.out hpl rfl HSRC.out (by omega)).mono ?_
                rintro e w7 ⟨⟨A7, n7, c7, rfl, ho7⟩, hb7⟩
                rw [HTX.out.2.1]
                rw [HTX.out.2.2.1] at ho7
                have hz6 := HZ6.out
                have HO7 : Hid (TxOk w7 Bm ⟨A7, c7, Sc.textB [f, tl, stashB orig stash] parts⟩) := Lib.hid ((TxOk.of_own ho7).mono (by omega))
                have hb67 : Below wr.heap.size wr w7 := HB6.out.trans (hb7.mono (by omega))
                have HJ7 := Lib.hid (HJ.out.2.1.up hb67)
                have HB7 := Lib.hid (HJ.out.1.trans (hb67.mono hszj))
                have HTT := Lib.hid HJ.out.2.2
                have hsz7 : Bm ≤ w7.heap.size := by have := hb67.size; omega
                have hn7 := ho7.1
                subst hn7
                clear ho7 hb7 hb67 hz6 HB6 HZ6 HRP HSRC HSO HTX HJ t0 t1
                generalize hX : Sc.textB [f, tl, stashB orig stash] parts = X at *
                have HX := Lib.hid hX
                clear hX
                go_wp2_with (at_builtin; refine wpList_append_own _ rfl _ _ 39 rfl Bm 22 k0 _ 1 24 Try.underlying39 ki kz0 kz1 kz2 rfl (by omega) _ _ _ rfl (HJ7.out.row.2.alloc _) ⟨w7.heap.size, 0, none⟩ 1 1 (txCells [⟨A7, c7, X⟩]) rfl rfl (World.news_of_block (heap_alloc_new _ _)) (by simp [txCells, Value.oneCell']) (by unfold maxLen; omega) (by omega) (by simp; omega) ?_)
                intro v' w8 hown' hgrow _
                obtain ⟨A8, c8, rfl, ht8, hb8⟩ := HJ7.out.push HO7.out hsz7 ((Below.refl _ _).alloc (Nat.le_refl _) _) hown' hgrow
                have HT8 := Lib.hid ht8
                have HB8 := Lib.hid (HB7.out.trans hb8)
                clear hown' hgrow ht8 hb8 HJ7 HO7 HB7
                go_wp2_with fail
                go_roundw
                case measure => simp [intOf]; omega
                case rel => exact ⟨j + 1, A8, c8, T ++ [⟨A7, c7, X⟩], by omega, by go_num, rfl, Lib.hid ⟨HB8.out, HT8.out, by rw [HTK.out, List.map_append, List.map_append, HTT.out]; simp [HX.out]⟩⟩
              · obtain rfl : j = steps.length := by omega
                clear hlj
                have HTL := Lib.hid HT.out
                have HT := Lib.hid HJ.out.2.1
                have HTT : Hid (T.map TxV.t = V.map fun s => Sc.textB [f, tl, stashB orig stash] s.2) := Lib.hid (by
                  have h := HJ.out.2.2
                  rwa [List.take_of_length_le (by have := HVL.out; omega)] at h)
                have HBJ := Lib.hid HJ.out.1
                have HFJ := Lib.hid (HFB.out.below (B := Bm) HJ.out.1 (by have := HBm.out; omega))
                clear HJ
                go_wp2_with fail
                generalize wr = Wt at *
                go_loopw [90] (fun i wx => ∃ q : Nat, q ≤ steps.length ∧ i = .int .i64 q ∧ Hid (Wt.grownBy wx (some g) ∧ OwnB wx G (some ⟨g, 0, none⟩) L c6 (putsK [f, tl, stashB orig stash] f V q))) (fun i _ => steps.length - (intOf i).toNat)
                case atStart => exact ⟨0, Nat.zero_le _, rfl, Lib.hid ⟨World.grownBy.refl _ _, HFJ.out⟩⟩
                case round =>
                  obtain ⟨q, hq, rfl, HK⟩ := hrel
                  by_cases hlq : q < steps.length
                  · obtain ⟨s, hs⟩ := Sc.get_some steps q hlq
                    obtain ⟨sb, soff, rfl, hsb, s0, s1, hso⟩ := HVO.out.rd q s hs
                    have hsv := HVW.out q s hs
                    have htx := (HWV.out s.st (List.mem_of_getElem? hsv)).text (f := f) (t := tl) (st := stashB orig stash) (by have := HFL.out; omega) (by have := HFL.out; show n ≤ _; omega) hn1 (by have := HTL.out; omega) (by have := HSTL.out.1; have := HSTL.out.2; show tot stash ≤ _; omega)
                    have HPN := Lib.hid (putsK_next (srcs := [f, tl, stashB orig stash]) (f := f) hsv)
                    have hgm : g < Bm := by have := (OwnB.block HFB.out).2.1; have := HBm.out; omega
                    have hneg : sb ≠ g := by omega
                    have HTW := Lib.hid (HT.out.beside HK.out.1 hgm)
                    obtain ⟨t, htt⟩ := Sc.get_some T q (by have := HT.out.row.1; omega)
                    have hte : t.t = Sc.textB [f, tl, stashB orig stash] s.parts := by
                      have h1 : (T.map TxV.t)[q]? = some t.t := by rw [List.getElem?_map, htt]; rfl
                      rw [HTT.out, List.getElem?_map, hsv] at h1
                      exact (Option.some.inj h1).symm
                    obtain ⟨mb, rfl, hmb, m0⟩ := HTW.out.row.cellAt htt
                    have hto := HTW.out.tx t (List.mem_of_getElem? htt)
                    obtain ⟨tA, tc9, X⟩ := t
                    obtain ⟨blk, PA, pc, parts⟩ := s
                    simp only at s0 s1 hte m0
                    simp only [StV.st] at htx HPN
                    rw [← hte] at htx HPN
                    obtain ⟨_, _, _, x0, x1, x2, x3, x4⟩ := htx
                    obtain ⟨o, ho⟩ : ∃ o : Nat, blk * 64 = (o : Int) := ⟨(blk * 64).toNat, by omega⟩
                    have hoe : (64 * blk).toNat = o := by omega
                    rw [hoe] at HPN
                    have hw64 : IntKind.i64.wrap (blk * 64) = (o : Int) := by rw [IntWalk.i64_in _ (by omega)]; exact ho
                    have hoL2 : o + X.length ≤ L := by omega
                    have t0 : wr.cell? ⟨sb, soff + q * 2, none⟩ = some (.int .i64 blk) := (HK.out.1.cell_far ⟨sb, soff + q * 2, none⟩ (by simp only; have := HBJ.out.size; have := HBm.out; omega) (by simp only; intro e; injection e with e; omega)).trans ((HBJ.out.cell (p := ⟨sb, soff + q * 2, none⟩) (by simp only; omega)).trans s0)
                    have t1 : wr.cell? ⟨sb, soff + q * 2 + 1, none⟩ = some (.slice PA parts.length pc) := (HK.out.1.cell_far ⟨sb, soff + q * 2 + 1, none⟩ (by simp only; have := HBJ.out.size; have := HBm.out; omega) (by simp only; intro e; injection e with e; omega)).trans ((HBJ.out.cell (p := ⟨sb, soff + q * 2 + 1, none⟩) (by simp only; omega)).trans s1)
                    have hb5 : Below wr.heap.size wr (wr.alloc (.cells #[.int .i64 blk, .slice PA parts.length pc] 70)).drew := belowDrewN ((Below.refl _ _).alloc (Nat.le_refl _) _) 1
                    have hO5 : OwnB (wr.alloc (.cells #[.int .i64 blk, .slice PA parts.length pc] 70)).drew G (some ⟨g, 0, none⟩) L c6 (putsK [f, tl, stashB orig stash] f V q) := (HK.out.2.alloc _).drewN 1
                    obtain ⟨w9, hrun, ho9, hg9⟩ := run_copy_own 3 hO5 o (RdB.same hto.rd hb5.size (fun b hb => hb5.block b (hto.lt hb))) rfl (by simp only; omega) (by simp only; omega)
                    have b0 : (wr.alloc (.cells #[.int .i64 blk, .slice PA parts.length pc] 70)).cell? ⟨wr.heap.size, 0, none⟩ = some (.int .i64 blk) := cell_new wr _ 70 0
                    have m5 : (wr.alloc (.cells #[.int .i64 blk, .slice PA parts.length pc] 70)).cell? ⟨mb, q, none⟩ = some (.slice tA X.length tc9) := (hb5.cell (p := ⟨mb, q, none⟩) hmb).trans m0
                    have hlast : (c6 = o) = False := by simp; omega
                    have hoLi : (o : Int) ≤ (L : Int) := by omega
                    have b9 : w9.cell? ⟨wr.heap.size, 0, none⟩ = some (.int .i64 blk) := (hg9.cell_far ⟨wr.heap.size, 0, none⟩ (by simp) (by simp only; intro e; injection e with e; have := HBJ.out.size; have := HBm.out; have := HK.out.1.size; omega)).trans b0
                    have hmbB : Bm ≤ mb := (HTW.out.row.ty (b := mb) (inA_some.2 rfl)).1
                    have m9 : w9.cell? ⟨mb, q, none⟩ = some (.slice tA X.length tc9) := (hg9.cell_far ⟨mb, q, none⟩ (by simp; omega) (by simp only; intro e; injection e with e; omega)).trans m5
                    have HO9 : Hid (OwnB w9 G (some ⟨g, 0, none⟩) L c6 (putsK [f, tl, stashB orig stash] f V (q + 1))) := Lib.hid (by rw [HPN.out]; exact ho9)
                    have HG9 : Hid (Wt.grownBy w9 (some g)) := Lib.hid (grown_step HK.out.1 hg9)
                    have hrn : (Builtin.copy_ #[22, 22] 3 #[.slice (some ⟨g, o, none⟩) (L - o) (c6 - o), .slice tA X.length tc9]).run Try.prog (wr.alloc (.cells #[.int .i64 blk, .slice PA parts.length pc] 70)).drew = .ok (.int .i64 X.length) w9 := hrun
                    clear hrun
                    clear hs s0 s1 hso hsv htt hte hto hb5 hO5 ho9 hg9 HPN HK HTW ho hoe x0 x1 x2 x3 x4 m0
                    go_upto_region 26 with (fail)
                    clear t0 t1
                    go_region_held3 (fun w' => w'.cell? ⟨wr.heap.size, 0, none⟩ = some (.int .i64 blk) ∧ w'.cell? ⟨mb, q, none⟩ = some (.slice tA X.length tc9)) (first | exact ⟨b0, m5⟩ | exact ⟨b9, m9⟩ | (go_keep; done))
                      ((first | (refine step_copy_told (by rfl) (.tmp 99) (.tmp 103) (by rfl) _ _ _ (by rfl) (by rfl) hrn ?_) | fail))
                    all_goals
                      clear b0 m5 b9 m9 hrn
                      go_wp2_with fail
                      go_roundw
                      case measure => simp [intOf]; omega
                      case rel => exact ⟨q + 1, by omega, by go_num, Lib.hid ⟨HG9.out, HO9.out⟩⟩
                  · obtain rfl : q = steps.length := by omega
                    clear hlq
                    have HEND : Hid (OwnB wr G (some ⟨g, 0, none⟩) L c6 (fileW ⟨n, stash, waves.map WvV.wv⟩ orig tl (k + 1)) ∧ Below G W0 wr) := Lib.hid ⟨by
                      have h := HK.out.2
                      rw [← HVL.out, putsK_all] at h
                      rw [HFN.out]; exact h, by
                      have h1 : Below G Wt wr := below_of_grown HK.out.1 hgg (by omega)
                      exact (HBI.out.trans (HBJ.out.mono hGw)).trans h1⟩
                    clear HK
                    go_wp2_with fail
                    go_roundw
                    case measure => simp [intOf]; omega
                    case rel => exact ⟨k + 1, by omega, by go_num, Lib.hid ⟨HEND.out.2, HEND.out.1⟩⟩
          · obtain rfl : k = waves.length := by omega
            clear hlt hk
            obtain ⟨N, rfl⟩ := Int.eq_ofNat_of_zero_le hn0
            have hGw : G ≤ wr.heap.size := by have := HI.out.1.size; have := HEG.out; omega
            have e0 : wr.cell? ⟨pb, 0, none⟩ = some (.int .i64 (N : Int)) := cell_of_row _ _ 0 _ 32 (0, 0) ((HI.out.1.block pb (by omega)).trans HXW.out)
            have hNc : (N : Int) ≤ (c6 : Int) := by omega
            have hNn : (0 : Int) ≤ (N : Int) := hn0
            have HEND : Hid (OwnB wr pb (some ⟨g, 0, none⟩) N c6 (runF ⟨(N : Int), stash, waves.map WvV.wv⟩ orig tl) ∧ Below pb w wr) := Lib.hid ⟨by
              have h := (OwnB.shrink HI.out.2 N (by omega)).mono (show pb ≤ G by omega)
              have e : fileW ⟨(N : Int), stash, waves.map WvV.wv⟩ orig tl waves.length = fileF ⟨(N : Int), stash, waves.map WvV.wv⟩ orig tl := by
                rw [← fileW_all]; simp
              rw [e] at h
              unfold runF
              simpa using h, HBW.out.trans (HI.out.1.mono (by omega))⟩
            clear HI
            go_wp2_with fail
            go_ret2
            obtain rfl := HPB.out
            exact ⟨⟨_, _, _, rfl, HEND.out.1⟩, HEND.out.2⟩
end Go.Proofs.Yteceephenfmdoaa
