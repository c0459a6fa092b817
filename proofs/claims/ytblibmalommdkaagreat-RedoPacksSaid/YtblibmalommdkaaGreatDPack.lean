/-
  redo.Pack: a journal's bytes, or a refusal.
-/
import Derived.Test.YtblibmalommdkaaGreatRPack
import Derived.Deep.RegionHeld3
namespace Go.Proofs.YtblibmalommdkaaGreat
open Go.RowKit
open Re (OwnB RdB bcells leB leB_length Sup okS packS packS_length)
set_option maxRecDepth 100000 in
set_option maxHeartbeats 8000000 in
theorem PackJ_any (v : JnV) (w : World) (hP : JnOk w w.heap.size v) (hn : v.p.stash.length ≤ 60) (hw : v.p.waves.length ≤ 200) :
    Calls Tryz.prog 13 #[.agg v.cells] w fun e w' => PackAns v w (.int .i64 1) e w' := by
  have hfit : MayJ v.jn → F4 v.jn.old ∧ FitV v.p ∧ v.stash.length ≤ 1048577 := fun h => by
    have h1 := may_fits h hn (by simpa [JnV.jn, PlV.pln] using hw)
    exact ⟨h1.1, fit_rows h1.2.1, h1.2.2⟩
  have hrows := packJ_rows v
  obtain ⟨old, ⟨t0, t1, t2, t3, t4⟩, ⟨sz, SA, sc, st, WA, wq, Q⟩, TA, tc, tl⟩ := v
  have HFIT := Lib.hid hfit
  clear hfit
  unfold JnV.cells
  simp only at *
  have hb1 : Below w.heap.size w (w.alloc (.cells #[.int .i64 old, .int .i64 t0, .int .i64 t1, .int .i64 t2, .int .i64 t3, .int .i64 t4, .int .i64 sz, .slice SA st.length sc, .slice WA Q.length wq, .slice TA tl.length tc] 32)) := (Below.refl _ _).alloc (Nat.le_refl _) _
  have hcall := MayJ_any ⟨old, ⟨t0, t1, t2, t3, t4⟩, ⟨sz, SA, sc, st, WA, wq, Q⟩, TA, tc, tl⟩ (w.alloc (.cells #[.int .i64 old, .int .i64 t0, .int .i64 t1, .int .i64 t2, .int .i64 t3, .int .i64 t4, .int .i64 sz, .slice SA st.length sc, .slice WA Q.length wq, .slice TA tl.length tc] 32)) (hP.up hb1) (by simp only; omega) (by simp only; omega)
  unfold JnV.cells at hcall
  simp only at hcall
  have HX1 := Lib.hid (heap_alloc_new w (.cells #[.int .i64 old, .int .i64 t0, .int .i64 t1, .int .i64 t2, .int .i64 t3, .int .i64 t4, .int .i64 sz, .slice SA st.length sc, .slice WA Q.length wq, .slice TA tl.length tc] 32))
  have HB1 := Lib.hid hb1
  have HP := Lib.hid hP
  have HRW := Lib.hid hrows
  clear hrows hb1 hP
  go_enter Tryz.func13, Tryz.ntmps13
  go_upto_region 1 with (fail)
  generalize w.alloc (.cells #[.int .i64 old, .int .i64 t0, .int .i64 t1, .int .i64 t2, .int .i64 t3, .int .i64 t4, .int .i64 sz, .slice SA st.length sc, .slice WA Q.length wq, .slice TA tl.length tc] 32) = w1 at *
  obtain ⟨J, hJ⟩ : ∃ J, JnV.jn ⟨old, ⟨t0, t1, t2, t3, t4⟩, ⟨sz, SA, sc, st, WA, wq, Q⟩, TA, tc, tl⟩ = J := ⟨_, rfl⟩
  obtain ⟨mb, hmb⟩ : ∃ mb, mayJB (JnV.jn ⟨old, ⟨t0, t1, t2, t3, t4⟩, ⟨sz, SA, sc, st, WA, wq, Q⟩, TA, tc, tl⟩) = mb := ⟨_, rfl⟩
  rw [hmb] at hcall
  have HMB := Lib.hid hmb
  clear hmb
  have c0 : w1.cell? ⟨w.heap.size, 0, none⟩ = some (.int .i64 old) := cell_of_row _ _ 0 _ 32 (0, 0) HX1.out
  have c1 : w1.cell? ⟨w.heap.size, 1, none⟩ = some (.int .i64 t0) := cell_of_row _ _ 1 _ 32 (0, 0) HX1.out
  have c2 : w1.cell? ⟨w.heap.size, 2, none⟩ = some (.int .i64 t1) := cell_of_row _ _ 2 _ 32 (0, 0) HX1.out
  have c3 : w1.cell? ⟨w.heap.size, 3, none⟩ = some (.int .i64 t2) := cell_of_row _ _ 3 _ 32 (0, 0) HX1.out
  have c4 : w1.cell? ⟨w.heap.size, 4, none⟩ = some (.int .i64 t3) := cell_of_row _ _ 4 _ 32 (0, 0) HX1.out
  have c5 : w1.cell? ⟨w.heap.size, 5, none⟩ = some (.int .i64 t4) := cell_of_row _ _ 5 _ 32 (0, 0) HX1.out
  have c6 : w1.cell? ⟨w.heap.size, 6, none⟩ = some (.int .i64 sz) := cell_of_row _ _ 6 _ 32 (0, 0) HX1.out
  have c7 : w1.cell? ⟨w.heap.size, 7, none⟩ = some (.slice SA st.length sc) := cell_of_row _ _ 7 _ 32 (0, 0) HX1.out
  have c8 : w1.cell? ⟨w.heap.size, 8, none⟩ = some (.slice WA Q.length wq) := cell_of_row _ _ 8 _ 32 (0, 0) HX1.out
  have c9 : w1.cell? ⟨w.heap.size, 9, none⟩ = some (.slice TA tl.length tc) := cell_of_row _ _ 9 _ 32 (0, 0) HX1.out
  go_wp2_with fail
  refine hcall.mono ?_
  rintro e w2 ⟨rfl, hb⟩
  have HB2 := Lib.hid (HB1.out.trans (hb.mono HB1.out.size))
  have HX2 := Lib.hid ((hb.block _ (Array.getElem?_eq_some_iff.1 HX1.out).1).trans HX1.out)
  clear hb hcall HB1 HX1 c0 c1 c2 c3 c4 c5 c6 c7 c8 c9
  cases mb with
  | false =>
    have HNO : Hid (¬ MayJ (JnV.jn ⟨old, ⟨t0, t1, t2, t3, t4⟩, ⟨sz, SA, sc, st, WA, wq, Q⟩, TA, tc, tl⟩)) := Lib.hid (fun h => by have h1 := mayJB_of h; rw [HMB.out] at h1; cases h1)
    go_wp2_with fail
    go_ret2
    exact ⟨.inr ⟨HNO.out, rfl⟩, HB2.out⟩
  | true =>
    have HYES : Hid (MayJ (JnV.jn ⟨old, ⟨t0, t1, t2, t3, t4⟩, ⟨sz, SA, sc, st, WA, wq, Q⟩, TA, tc, tl⟩)) := Lib.hid (mayJB_is.1 HMB.out)
    obtain ⟨hold, hfv, htl⟩ := HFIT.out HYES.out
    have HF := Lib.hid hfv
    have HOLD : Hid (F4 old) := Lib.hid hold
    have HSUP : Hid (okS ⟨t0, t1, t2, t3, t4⟩) := Lib.hid HYES.out.2.2.1
    clear hfv hold hJ HMB HFIT
    have HP2 : Hid (Pk w w2 #[.int .i64 old, .int .i64 t0, .int .i64 t1, .int .i64 t2, .int .i64 t3, .int .i64 t4, .int .i64 sz, .slice SA st.length sc, .slice WA Q.length wq, .slice TA tl.length tc] none 0 0 []) := Lib.hid ⟨HB2.out, HX2.out, ⟨rfl, World.ownsRow_nil _ _ _ _⟩⟩
    clear HB2 HX2
    have c1 : w2.cell? ⟨w.heap.size, 1, none⟩ = some (.int .i64 t0) := HP2.out.cell 1
    have c2 : w2.cell? ⟨w.heap.size, 2, none⟩ = some (.int .i64 t1) := HP2.out.cell 2
    have c3 : w2.cell? ⟨w.heap.size, 3, none⟩ = some (.int .i64 t2) := HP2.out.cell 3
    have c4 : w2.cell? ⟨w.heap.size, 4, none⟩ = some (.int .i64 t3) := HP2.out.cell 4
    have c5 : w2.cell? ⟨w.heap.size, 5, none⟩ = some (.int .i64 t4) := HP2.out.cell 5
    have hsp := Re.PackS_yes ⟨t0, t1, t2, t3, t4⟩ w2 HSUP.out
    unfold Re.Sup.cells at hsp
    simp only at hsp
    go_wp2_with fail
    refine hsp.mono ?_
    rintro e w3 ⟨⟨g1, cg1, rfl, hown⟩, hb⟩
    have HP3 := Lib.hid (HP2.out.below hb)
    have HR3 := Lib.hid hown.rd
    clear hb hown hsp HP2 c1 c2 c3 c4 c5
    have c0 : w3.cell? ⟨w.heap.size, 0, none⟩ = some (.int .i64 old) := HP3.out.cell 0
    go_wp2_with fail
    refine (put4_nil (HP3.out.alloc _) (alloc_at _ _ _ rfl) HOLD.out).mono ?_
    rintro e w4 ⟨⟨A4, k4, rfl, hp⟩, hb⟩
    have hb3 : Below w3.heap.size w3 w4 := ((Below.refl _ _).alloc (Nat.le_refl _) _).trans (hb.mono (by simp))
    have HP4 := Lib.hid hp
    have HR4 := Lib.hid ((HR3.out.below hb3 (Nat.le_refl _)).more hb3.size)
    clear hp hb hb3 HP3 HR3 c0
    go_wp2_with (at_builtin; refine wp_app rfl _ _ (by rfl) HP4.out (by rfl) (by rfl) (fun h => by cases h) (packS_length _) HR4.out (by omega) ?_)
    intro A5 k5 w5 hp5 _hk5
    have HP5 := Lib.hid hp5
    clear hp5 HP4 HR4 _hk5
    have c6 : w5.cell? ⟨w.heap.size, 6, none⟩ = some (.int .i64 sz) := HP5.out.cell 6
    have c7 : w5.cell? ⟨w.heap.size, 7, none⟩ = some (.slice SA st.length sc) := HP5.out.cell 7
    go_wp2_with fail
    refine (put44 (HP5.out.alloc _) (alloc_at _ _ _ rfl) HF.out.size ⟨by omega, by have := HF.out.sl; simp only at this; omega⟩ (by omega)).mono ?_
    rintro e w6 ⟨A6, k6, rfl, hp, hk⟩
    have HP6 := Lib.hid hp; have HK6 := Lib.hid ((Kx.alloc _ _).trans hk)
    clear hp hk HP5 c6 c7
    have hstl : st.length ≤ 60 := HF.out.sl
    have hwl : Q.length ≤ 200 := HF.out.wl
    obtain ⟨L1, hL1⟩ : ∃ L, leB old 4 ++ (packS ⟨t0, t1, t2, t3, t4⟩ ++ (leB sz 4 ++ leB (st.length : Int) 4)) = L := ⟨_, rfl⟩
    have HP6' : Hid (Pk w w6 #[.int .i64 old, .int .i64 t0, .int .i64 t1, .int .i64 t2, .int .i64 t3, .int .i64 t4, .int .i64 sz, .slice SA st.length sc, .slice WA Q.length wq, .slice TA tl.length tc] A6 (68 + 8) k6 L1) := Lib.hid (by rw [← hL1]; simpa only [List.append_assoc] using HP6.out)
    have HL1 := Lib.hid hL1
    clear hL1 HP6 HK6
    have c7 : w6.cell? ⟨w.heap.size, 7, none⟩ = some (.slice SA st.length sc) := HP6'.out.cell 7
    go_wp2_with fail
    clear c7
    go_loopw [6, 8, 44] (fun b _ i wr => ∃ (k n c : Nat) (A : Option Addr), k ≤ st.length ∧ i = .int .i64 k ∧ b = .slice A n c ∧ n ≤ 76 + 8 * k ∧ Hid (Pk w wr #[.int .i64 old, .int .i64 t0, .int .i64 t1, .int .i64 t2, .int .i64 t3, .int .i64 t4, .int .i64 sz, .slice SA st.length sc, .slice WA Q.length wq, .slice TA tl.length tc] A n c (L1 ++ (st.take k).flatMap bRange))) (fun _ _ i _ => st.length - (intOf i).toNat)
    case atStart => exact ⟨0, 68 + 8, k6, A6, Nat.zero_le _, rfl, rfl, by omega, Lib.hid (by simpa using HP6'.out)⟩
    case round =>
      obtain ⟨k, n, c, A, hk, rfl, rfl, hnk, HPr⟩ := hrel
      by_cases hlt : k < st.length
      · obtain ⟨r, hr⟩ := Sc.get_some st k hlt
        obtain ⟨rb, ro, hSA, _, d0, d1⟩ := (HP.out.p.st.below HPr.out.low (Nat.le_refl _)) k r hr
        have HFR := Lib.hid (HF.out.st r (List.mem_of_getElem? hr))
        have HSN : Hid ((st.take (k + 1)).flatMap bRange = (st.take k).flatMap bRange ++ (leB r.1 4 ++ leB r.2 4)) := Lib.hid (flat_snoc hr)
        simp only at hSA
        subst hSA
        clear hr
        go_wp2_with fail
        refine (put44 ((HPr.out.alloc _).alloc _) (alloc_at _ _ _ (by simp)) HFR.out.1 HFR.out.2 (by omega)).mono ?_
        rintro e w7 ⟨A7, k7, rfl, hp, _hk⟩
        have HP7 := Lib.hid hp
        clear hp _hk d0 d1
        go_wp2_with fail
        go_roundw
        case measure => simp [intOf]; omega
        case rel => exact ⟨k + 1, n + 8, k7, A7, by omega, by go_num, rfl, by omega, Lib.hid (by rw [HSN.out]; simpa only [List.append_assoc] using HP7.out)⟩
      · obtain rfl : k = st.length := by omega
        rw [List.take_length] at HPr
        clear hlt hk HP6'
        have c8 : wr.cell? ⟨w.heap.size, 8, none⟩ = some (.slice WA Q.length wq) := HPr.out.cell 8
        go_wp2_with fail
        refine (put4 (HPr.out.alloc _) (alloc_at _ _ _ rfl) ⟨by omega, by omega⟩ (by omega)).mono ?_
        rintro e w8 ⟨A8, k8, rfl, hp, _hk⟩
        have HP8 := Lib.hid hp
        clear hp _hk c8
        obtain ⟨L2, hL2⟩ : ∃ L, L1 ++ (st.flatMap bRange ++ leB (Q.length : Int) 4) = L := ⟨_, rfl⟩
        have HP8' : Hid (Pk w w8 #[.int .i64 old, .int .i64 t0, .int .i64 t1, .int .i64 t2, .int .i64 t3, .int .i64 t4, .int .i64 sz, .slice SA st.length sc, .slice WA Q.length wq, .slice TA tl.length tc] A8 (n + 4) k8 L2) := Lib.hid (by rw [← hL2]; simpa only [List.append_assoc] using HP8.out)
        have HL2 := Lib.hid hL2
        clear hL2 HP8 HPr
        have hn8 : n + 4 ≤ 600 := by omega
        have c8 : w8.cell? ⟨w.heap.size, 8, none⟩ = some (.slice WA Q.length wq) := HP8'.out.cell 8
        go_wp2_with fail
        clear c8
        go_loopw [6, 10, 12, 14, 67] (fun b _ _ _ i wr => ∃ (k n c : Nat) (A : Option Addr), k ≤ Q.length ∧ i = .int .i64 k ∧ b = .slice A n c ∧ n ≤ 600 + 24897 * k ∧ Hid (Pk w wr #[.int .i64 old, .int .i64 t0, .int .i64 t1, .int .i64 t2, .int .i64 t3, .int .i64 t4, .int .i64 sz, .slice SA st.length sc, .slice WA Q.length wq, .slice TA tl.length tc] A n c (L2 ++ (Q.take k).flatMap eWv))) (fun _ _ _ _ i _ => Q.length - (intOf i).toNat)
        case atStart => exact ⟨0, n + 4, k8, A8, Nat.zero_le _, rfl, rfl, by omega, Lib.hid (by simpa using HP8'.out)⟩
        case round =>
          obtain ⟨kw, nw, cw, AW, hkw, rfl, rfl, hnw, HPr⟩ := hrel
          by_cases hlt : kw < Q.length
          · obtain ⟨v, hv⟩ := Sc.get_some Q kw hlt
            obtain ⟨wb, woff, hWA, hwb, w00, hwv⟩ := HP.out.p.wv kw v hv
            have wc0 := (HPr.out.low.cell (p := ⟨wb, woff + kw, none⟩) hwb).trans w00
            have hfw := HF.out.w v (List.mem_of_getElem? hv)
            have HSNW0 := Lib.hid (flat_snoc (f := eWv) hv)
            have HWV := Lib.hid hwv
            obtain ⟨VA, vc, steps⟩ := v
            have HSNW : Hid ((Q.take (kw + 1)).flatMap eWv = (Q.take kw).flatMap eWv ++ (leB (steps.length : Int) 1 ++ steps.flatMap eSt)) := Lib.hid HSNW0.out
            clear HSNW0
            simp only at hWA wc0 hfw
            have hvl := hfw.1
            have HFW := Lib.hid hfw.2
            subst hWA
            clear w00 hwv hv hfw
            go_wp2_with fail
            refine (put1 (HPr.out.alloc _) (alloc_at _ _ _ rfl) ⟨by omega, by omega⟩ (by omega)).mono ?_
            rintro e w9 ⟨A9, k9, rfl, hp, _hk⟩
            have HP9 := Lib.hid hp
            clear hp _hk wc0
            obtain ⟨L3, hL3⟩ : ∃ L, L2 ++ (Q.take kw).flatMap eWv = L := ⟨_, rfl⟩
            have HP9' : Hid (Pk w w9 #[.int .i64 old, .int .i64 t0, .int .i64 t1, .int .i64 t2, .int .i64 t3, .int .i64 t4, .int .i64 sz, .slice SA st.length sc, .slice (some ⟨wb, woff, none⟩) Q.length wq, .slice TA tl.length tc] A9 (nw + 1) k9 (L3 ++ leB (steps.length : Int) 1)) := Lib.hid (by rw [← hL3]; simpa only [List.append_assoc] using HP9.out)
            have HL3 := Lib.hid hL3
            clear hL3 HP9 HPr
            go_wp2_with fail
            go_loopw [6, 12, 14, 78] (fun b _ _ i wr => ∃ (k n c : Nat) (A : Option Addr), k ≤ steps.length ∧ i = .int .i64 k ∧ b = .slice A n c ∧ n ≤ nw + 1 + 389 * k ∧ Hid (Pk w wr #[.int .i64 old, .int .i64 t0, .int .i64 t1, .int .i64 t2, .int .i64 t3, .int .i64 t4, .int .i64 sz, .slice SA st.length sc, .slice (some ⟨wb, woff, none⟩) Q.length wq, .slice TA tl.length tc] A n c (L3 ++ (leB (steps.length : Int) 1 ++ (steps.take k).flatMap eSt)))) (fun _ _ _ i _ => steps.length - (intOf i).toNat)
            case atStart => exact ⟨0, nw + 1, k9, A9, Nat.zero_le _, rfl, rfl, by omega, Lib.hid (by simpa using HP9'.out)⟩
            case round =>
              obtain ⟨ks, ns, cs, AS, hks, rfl, rfl, hns, HPr⟩ := hrel
              by_cases hlt2 : ks < steps.length
              · obtain ⟨s, hs⟩ := Sc.get_some steps ks hlt2
                obtain ⟨sb, so, hVA, _, s0, s1, hok⟩ := (HWV.out.rd.below HPr.out.low (Nat.le_refl _)) ks s hs
                have hfs := HFW.out s (List.mem_of_getElem? hs)
                have HSNS0 := Lib.hid (flat_snoc (f := eSt) hs)
                have HSG := Lib.hid hs
                obtain ⟨blk, PA, pc, parts⟩ := s
                have HSNS : Hid ((steps.take (ks + 1)).flatMap eSt = (steps.take ks).flatMap eSt ++ (leB blk 4 ++ (leB (parts.length : Int) 1 ++ parts.flatMap bPart))) := Lib.hid HSNS0.out
                clear HSNS0
                simp only at hVA s0 s1 hfs
                have HFB := Lib.hid hfs.1
                have hpl := hfs.2.1
                have HFX := Lib.hid hfs.2.2
                have HOK := Lib.hid hok
                subst hVA
                clear hs hfs hok
                go_upto_region 19 with (fail)
                have HP12 := Lib.hid (HPr.out.alloc (.cells #[.int .i64 blk, .slice PA parts.length pc] 78))
                have HX12 := Lib.hid (heap_alloc_new wr (.cells #[.int .i64 blk, .slice PA parts.length pc] 78))
                clear HPr s0 s1
                generalize wr.alloc (.cells #[.int .i64 blk, .slice PA parts.length pc] 78) = w12 at *
                obtain ⟨xk, hxk⟩ : ∃ xk, xk = wr.heap.size := ⟨_, rfl⟩
                rw [← hxk] at HX12 ⊢
                clear hxk
                have HPd := Lib.hid HP12.out.drew
                have HXd : Hid (w12.drew.heap[xk]? = some (.cells #[.int .i64 blk, .slice PA parts.length pc] 78 (0, 0))) := Lib.hid HX12.out
                have hns4 : ns ≤ 1073741824 := by omega
                have hns5 : ns + 4 ≤ 1073741824 := by omega
                have hplF : F1 (parts.length : Int) := ⟨by omega, by omega⟩
                have hC1 : ∀ (W : World) (nb : Nat), Pk w W #[.int .i64 old, .int .i64 t0, .int .i64 t1, .int .i64 t2, .int .i64 t3, .int .i64 t4, .int .i64 sz, .slice SA st.length sc, .slice (some ⟨wb, woff, none⟩) Q.length wq, .slice TA tl.length tc] AS ns cs (L3 ++ (leB (steps.length : Int) 1 ++ (steps.take ks).flatMap eSt)) → W.heap[nb]? = some (.cells #[.int .i64 blk] 3 (0, 0)) → Calls Tryz.prog 34 #[.slice AS ns cs, .int .i64 4, .slice (some ⟨nb, 0, none⟩) 1 1] W fun e w' => ∃ A' c', e = .returned (.slice A' (ns + 4) c') ∧ Pk w w' #[.int .i64 old, .int .i64 t0, .int .i64 t1, .int .i64 t2, .int .i64 t3, .int .i64 t4, .int .i64 sz, .slice SA st.length sc, .slice (some ⟨wb, woff, none⟩) Q.length wq, .slice TA tl.length tc] A' (ns + 4) c' ((L3 ++ (leB (steps.length : Int) 1 ++ (steps.take ks).flatMap eSt)) ++ leB blk 4) ∧ Kx W w' := fun W nb h1 h2 => put4 h1 h2 HFB.out hns4
                have HC1 := Lib.hid hC1
                clear hC1
                have hC2 : ∀ (W : World) (nb : Nat) (A : Option Addr) (c : Nat), Pk w W #[.int .i64 old, .int .i64 t0, .int .i64 t1, .int .i64 t2, .int .i64 t3, .int .i64 t4, .int .i64 sz, .slice SA st.length sc, .slice (some ⟨wb, woff, none⟩) Q.length wq, .slice TA tl.length tc] A (ns + 4) c ((L3 ++ (leB (steps.length : Int) 1 ++ (steps.take ks).flatMap eSt)) ++ leB blk 4) → W.heap[nb]? = some (.cells #[.int .i64 (parts.length : Int)] 3 (0, 0)) → Calls Tryz.prog 34 #[.slice A (ns + 4) c, .int .i64 1, .slice (some ⟨nb, 0, none⟩) 1 1] W fun e w' => ∃ A' c', e = .returned (.slice A' (ns + 4 + 1) c') ∧ Pk w w' #[.int .i64 old, .int .i64 t0, .int .i64 t1, .int .i64 t2, .int .i64 t3, .int .i64 t4, .int .i64 sz, .slice SA st.length sc, .slice (some ⟨wb, woff, none⟩) Q.length wq, .slice TA tl.length tc] A' (ns + 4 + 1) c' (((L3 ++ (leB (steps.length : Int) 1 ++ (steps.take ks).flatMap eSt)) ++ leB blk 4) ++ leB (parts.length : Int) 1) ∧ Kx W w' := fun W nb A c h1 h2 => put1 h1 h2 hplF hns5
                have HC2 := Lib.hid hC2
                clear hC2
                go_cut [6] (fun v wx => ∃ (A' : Option Addr) (c' : Nat), v = .slice A' (ns + 4 + 1) c' ∧ Hid (Pk w wx #[.int .i64 old, .int .i64 t0, .int .i64 t1, .int .i64 t2, .int .i64 t3, .int .i64 t4, .int .i64 sz, .slice SA st.length sc, .slice (some ⟨wb, woff, none⟩) Q.length wq, .slice TA tl.length tc] A' (ns + 4 + 1) c' (L3 ++ (leB (steps.length : Int) 1 ++ ((steps.take ks).flatMap eSt ++ (leB blk 4 ++ leB (parts.length : Int) 1)))) ∧ wx.heap[xk]? = some (.cells #[.int .i64 blk, .slice PA parts.length pc] 78 (0, 0))))
                case first =>
                  go_region_held3 (fun w' => w'.cell? ⟨xk, 0, none⟩ = some (.int .i64 blk) ∧ w'.cell? ⟨xk, 1, none⟩ = some (.slice PA parts.length pc) ∧ w'.heap[xk]? = some (.cells #[.int .i64 blk, .slice PA parts.length pc] 78 (0, 0)))
                    (with_reducible refine box2_of ?_; ((repeat (first | with_reducible refine row_drew ?_ | with_reducible refine row_al ?_ _)); first | with_reducible exact HX12.out | with_reducible exact hx14 | with_reducible exact hx13))
                    (first
                      | (go_at_call 34; have _ := hp13; refine Calls.mono (HC2.out _ _ _ _ (by ((repeat (first | with_reducible refine Pk.drew ?_ | with_reducible refine Pk.alloc ?_ _)); with_reducible exact hp13)) (by first | ((try with_reducible refine row_drew ?_); first | (with_reducible refine alloc_at _ _ _ ?_; simp; done) | (with_reducible refine alloc_at2 _ _ _ _ ?_; simp; done)) | ((repeat (with_reducible refine row_al ?_ _)); with_reducible refine hk13.keep _ _ 3 _ (by decide) ?_; ((try with_reducible refine row_drew ?_); first | (with_reducible refine alloc_at _ _ _ ?_; simp; done) | (with_reducible refine alloc_at2 _ _ _ _ ?_; simp; done))))) ?_; rintro e w14 ⟨A14, k14, rfl, hp14, hk14⟩; have hx14 := hk14.keep xk #[.int .i64 blk, .slice PA parts.length pc] 78 (0, 0) (by decide) (by ((repeat (first | with_reducible refine row_drew ?_ | with_reducible refine row_al ?_ _)); first | with_reducible exact hx13)))
                      | (go_at_call 34; refine Calls.mono (HC1.out _ _ (by ((repeat (first | with_reducible refine Pk.drew ?_ | with_reducible refine Pk.alloc ?_ _)); with_reducible exact HP12.out)) (by ((try with_reducible refine row_drew ?_); first | (with_reducible refine alloc_at _ _ _ ?_; simp; done) | (with_reducible refine alloc_at2 _ _ _ _ ?_; simp; done)))) ?_; rintro e w13 ⟨A13, k13, rfl, hp13, hk13⟩; have hx13 := hk13.keep xk #[.int .i64 blk, .slice PA parts.length pc] 78 (0, 0) (by decide) (by ((repeat (first | with_reducible refine row_drew ?_ | with_reducible refine row_al ?_ _)); first | with_reducible exact HX12.out))))
                  all_goals
                    go_wp2_with fail
                    go_meet
                    exact ⟨A14, k14, rfl, Lib.hid ⟨by simpa only [List.append_assoc] using hp14, hx14⟩⟩
                case rest =>
                  obtain ⟨A14, k14, rfl, HI⟩ := hcut
                  have HPw := Lib.hid HI.out.1
                  have HXw := Lib.hid HI.out.2
                  have x1 : wc.cell? ⟨xk, 1, none⟩ = some (.slice PA parts.length pc) := cell_of_row _ _ 1 _ 78 (0, 0) HXw.out
                  clear HI HPd HXd HX12 HP12 HC1 HC2
                  obtain ⟨L4, hL4⟩ : ∃ L, L3 ++ (leB (steps.length : Int) 1 ++ (steps.take ks).flatMap eSt) = L := ⟨_, rfl⟩
                  have HP14' : Hid (Pk w wc #[.int .i64 old, .int .i64 t0, .int .i64 t1, .int .i64 t2, .int .i64 t3, .int .i64 t4, .int .i64 sz, .slice SA st.length sc, .slice (some ⟨wb, woff, none⟩) Q.length wq, .slice TA tl.length tc] A14 (ns + 4 + 1) k14 (L4 ++ (leB blk 4 ++ leB (parts.length : Int) 1))) := Lib.hid (by rw [← hL4]; simpa only [List.append_assoc] using HPw.out)
                  have HL4 := Lib.hid hL4
                  clear hL4 HPw
                  go_wp2_with fail
                  go_loopw [6, 14, 95] (fun b _ i wr => ∃ (k n c : Nat) (A : Option Addr), k ≤ parts.length ∧ i = .int .i64 k ∧ b = .slice A n c ∧ n ≤ ns + 4 + 1 + 6 * k ∧ Hid (Pk w wr #[.int .i64 old, .int .i64 t0, .int .i64 t1, .int .i64 t2, .int .i64 t3, .int .i64 t4, .int .i64 sz, .slice SA st.length sc, .slice (some ⟨wb, woff, none⟩) Q.length wq, .slice TA tl.length tc] A n c (L4 ++ (leB blk 4 ++ (leB (parts.length : Int) 1 ++ (parts.take k).flatMap bPart))))) (fun _ _ i _ => parts.length - (intOf i).toNat)
                  case atStart => exact ⟨0, ns + 4 + 1, k14, A14, Nat.zero_le _, rfl, rfl, by omega, Lib.hid (by simpa using HP14'.out)⟩
                  case round =>
                    clear x1
                    obtain ⟨kp, np, cp, AP, hkp, rfl, rfl, hnp, HPr⟩ := hrel
                    by_cases hlt3 : kp < parts.length
                    · obtain ⟨x, hx⟩ := Sc.get_some parts kp hlt3
                      obtain ⟨sb', so', hVA, _, _, _, hok⟩ := (HWV.out.rd.below HPr.out.low (Nat.le_refl _)) ks _ HSG.out
                      clear hVA
                      obtain ⟨xb, xo, hPA, _, q0, q1, q2⟩ := hok.rd kp x hx
                      have HSNP0 := Lib.hid (flat_snoc (f := bPart) hx)
                      obtain ⟨f0, f1, f2⟩ := HFX.out x (List.mem_of_getElem? hx)
                      obtain ⟨src, at_, len⟩ := x
                      have HSNP : Hid ((parts.take (kp + 1)).flatMap bPart = (parts.take kp).flatMap bPart ++ (leB src 1 ++ (leB at_ 4 ++ leB len 1))) := Lib.hid HSNP0.out
                      clear HSNP0
                      simp only at hPA q0 q1 q2
                      have HF0 : Hid (F1 src) := Lib.hid f0
                      have HF1 : Hid (F4 at_) := Lib.hid f1
                      have HF2 : Hid (F1 len) := Lib.hid f2
                      subst hPA
                      clear hx hok f0 f1 f2 HOK
                      go_upto_block 7 with (fail)
                      go_cut [6, 14] (fun v _ wx => ∃ (A' : Option Addr) (c' : Nat), v = .slice A' (np + 1 + 4 + 1) c' ∧ Hid (Pk w wx #[.int .i64 old, .int .i64 t0, .int .i64 t1, .int .i64 t2, .int .i64 t3, .int .i64 t4, .int .i64 sz, .slice SA st.length sc, .slice (some ⟨wb, woff, none⟩) Q.length wq, .slice TA tl.length tc] A' (np + 1 + 4 + 1) c' (L4 ++ (leB blk 4 ++ (leB (parts.length : Int) 1 ++ ((parts.take kp).flatMap bPart ++ (leB src 1 ++ (leB at_ 4 ++ leB len 1))))))))
                      case first =>
                        obtain ⟨LL, hLL⟩ : ∃ L, L4 ++ (leB blk 4 ++ (leB (parts.length : Int) 1 ++ (parts.take kp).flatMap bPart)) = L := ⟨_, rfl⟩
                        have HPL : Hid (Pk w wr #[.int .i64 old, .int .i64 t0, .int .i64 t1, .int .i64 t2, .int .i64 t3, .int .i64 t4, .int .i64 sz, .slice SA st.length sc, .slice (some ⟨wb, woff, none⟩) Q.length wq, .slice TA tl.length tc] AP np cp LL) := Lib.hid (by rw [← hLL]; exact HPr.out)
                        have HGO : Hid (∀ wx A' c', Pk w wx #[.int .i64 old, .int .i64 t0, .int .i64 t1, .int .i64 t2, .int .i64 t3, .int .i64 t4, .int .i64 sz, .slice SA st.length sc, .slice (some ⟨wb, woff, none⟩) Q.length wq, .slice TA tl.length tc] A' (np + 1 + 4 + 1) c' (((LL ++ leB src 1) ++ leB at_ 4) ++ leB len 1) → Pk w wx #[.int .i64 old, .int .i64 t0, .int .i64 t1, .int .i64 t2, .int .i64 t3, .int .i64 t4, .int .i64 sz, .slice SA st.length sc, .slice (some ⟨wb, woff, none⟩) Q.length wq, .slice TA tl.length tc] A' (np + 1 + 4 + 1) c' (L4 ++ (leB blk 4 ++ (leB (parts.length : Int) 1 ++ ((parts.take kp).flatMap bPart ++ (leB src 1 ++ (leB at_ 4 ++ leB len 1))))))) := Lib.hid (fun wx A' c' h => by rw [← hLL] at h; simpa only [List.append_assoc] using h)
                        have hns4 : np ≤ 1073741824 := by omega
                        have hns5 : np + 1 ≤ 1073741824 := by omega
                        have hns6 : np + 1 + 4 ≤ 1073741824 := by omega
                        have hkl : (kp : Int) < (parts.length : Int) := by omega
                        clear HPr hLL HP HRW HYES HF HOLD HSUP HWV HSG HSNS HSNP HSNW HFX HFB HFW HL1 HL2 HL3 HL4 HP14' HP9' HP8' HXw hn8 hstl hwl htl hnp hns hnw hkp hks hkw hvl hpl hn hw
                        go_upto_region 23 with (fail)
                        have HP12 := Lib.hid (HPL.out.alloc (.cells #[.int .i64 src, .int .i64 at_, .int .i64 len] 80))
                        have HX12 := Lib.hid (heap_alloc_new wr (.cells #[.int .i64 src, .int .i64 at_, .int .i64 len] 80))
                        clear HPL q0 q1 q2
                        generalize wr.alloc (.cells #[.int .i64 src, .int .i64 at_, .int .i64 len] 80) = w12 at *
                        obtain ⟨xk2, hxk⟩ : ∃ xk, xk = wr.heap.size := ⟨_, rfl⟩
                        rw [← hxk] at HX12 ⊢
                        clear hxk
                        have HXd : Hid (w12.drew.heap[xk2]? = some (.cells #[.int .i64 src, .int .i64 at_, .int .i64 len] 80 (0, 0))) := Lib.hid HX12.out
                        have hdone := hns6
                        have hC1 : ∀ (W : World) (nb : Nat) (A : Option Addr) (c : Nat), Pk w W #[.int .i64 old, .int .i64 t0, .int .i64 t1, .int .i64 t2, .int .i64 t3, .int .i64 t4, .int .i64 sz, .slice SA st.length sc, .slice (some ⟨wb, woff, none⟩) Q.length wq, .slice TA tl.length tc] A (np) c (LL) → W.heap[nb]? = some (.cells #[.int .i64 src] 3 (0, 0)) → Calls Tryz.prog 34 #[.slice A (np) c, .int .i64 1, .slice (some ⟨nb, 0, none⟩) 1 1] W fun e w' => ∃ A' c', e = .returned (.slice A' (np + 1) c') ∧ Pk w w' #[.int .i64 old, .int .i64 t0, .int .i64 t1, .int .i64 t2, .int .i64 t3, .int .i64 t4, .int .i64 sz, .slice SA st.length sc, .slice (some ⟨wb, woff, none⟩) Q.length wq, .slice TA tl.length tc] A' (np + 1) c' ((LL) ++ leB src 1) ∧ Kx W w' := fun W nb A c h1 h2 => put1 h1 h2 HF0.out hns4
                        have hC2 : ∀ (W : World) (nb : Nat) (A : Option Addr) (c : Nat), Pk w W #[.int .i64 old, .int .i64 t0, .int .i64 t1, .int .i64 t2, .int .i64 t3, .int .i64 t4, .int .i64 sz, .slice SA st.length sc, .slice (some ⟨wb, woff, none⟩) Q.length wq, .slice TA tl.length tc] A (np + 1) c (LL ++ leB src 1) → W.heap[nb]? = some (.cells #[.int .i64 at_] 3 (0, 0)) → Calls Tryz.prog 34 #[.slice A (np + 1) c, .int .i64 4, .slice (some ⟨nb, 0, none⟩) 1 1] W fun e w' => ∃ A' c', e = .returned (.slice A' (np + 1 + 4) c') ∧ Pk w w' #[.int .i64 old, .int .i64 t0, .int .i64 t1, .int .i64 t2, .int .i64 t3, .int .i64 t4, .int .i64 sz, .slice SA st.length sc, .slice (some ⟨wb, woff, none⟩) Q.length wq, .slice TA tl.length tc] A' (np + 1 + 4) c' ((LL ++ leB src 1) ++ leB at_ 4) ∧ Kx W w' := fun W nb A c h1 h2 => put4 h1 h2 HF1.out hns5
                        have hC3 : ∀ (W : World) (nb : Nat) (A : Option Addr) (c : Nat), Pk w W #[.int .i64 old, .int .i64 t0, .int .i64 t1, .int .i64 t2, .int .i64 t3, .int .i64 t4, .int .i64 sz, .slice SA st.length sc, .slice (some ⟨wb, woff, none⟩) Q.length wq, .slice TA tl.length tc] A (np + 1 + 4) c ((LL ++ leB src 1) ++ leB at_ 4) → W.heap[nb]? = some (.cells #[.int .i64 len] 3 (0, 0)) → Calls Tryz.prog 34 #[.slice A (np + 1 + 4) c, .int .i64 1, .slice (some ⟨nb, 0, none⟩) 1 1] W fun e w' => ∃ A' c', e = .returned (.slice A' (np + 1 + 4 + 1) c') ∧ Pk w w' #[.int .i64 old, .int .i64 t0, .int .i64 t1, .int .i64 t2, .int .i64 t3, .int .i64 t4, .int .i64 sz, .slice SA st.length sc, .slice (some ⟨wb, woff, none⟩) Q.length wq, .slice TA tl.length tc] A' (np + 1 + 4 + 1) c' (((LL ++ leB src 1) ++ leB at_ 4) ++ leB len 1) ∧ Kx W w' := fun W nb A c h1 h2 => put1 h1 h2 HF2.out hns6
                        have HC1 := Lib.hid hC1; have HC2 := Lib.hid hC2; have HC3 := Lib.hid hC3
                        clear hC1 hC2 hC3
                        go_region_held3 (fun w' => w'.cell? ⟨xk2, 0, none⟩ = some (.int .i64 src) ∧ w'.cell? ⟨xk2, 1, none⟩ = some (.int .i64 at_) ∧ w'.cell? ⟨xk2, 2, none⟩ = some (.int .i64 len) ∧ w'.heap[xk2]? = some (.cells #[.int .i64 src, .int .i64 at_, .int .i64 len] 80 (0, 0)))
                          (with_reducible refine box3_of ?_; ((repeat (first | with_reducible refine row_drew ?_ | with_reducible refine row_al ?_ _)); first | with_reducible exact HX12.out | with_reducible exact hx15 | with_reducible exact hx14 | with_reducible exact hx13))
                          (first
                            | (go_at_call 34; have _ := hp14; refine Calls.mono (HC3.out _ _ _ _ (by ((repeat (first | with_reducible refine Pk.drew ?_ | with_reducible refine Pk.alloc ?_ _)); with_reducible exact hp14)) (by first | ((try with_reducible refine row_drew ?_); first | (with_reducible refine alloc_at _ _ _ ?_; simp; done) | (with_reducible refine alloc_at2 _ _ _ _ ?_; simp; done) | (with_reducible refine alloc_at3 _ _ _ _ _ ?_; simp; done)) | ((repeat (with_reducible refine row_al ?_ _)); with_reducible refine hk14.keep _ _ 3 _ (by decide) ?_; first | ((try with_reducible refine row_drew ?_); first | (with_reducible refine alloc_at _ _ _ ?_; simp; done) | (with_reducible refine alloc_at2 _ _ _ _ ?_; simp; done) | (with_reducible refine alloc_at3 _ _ _ _ _ ?_; simp; done)) | ((repeat (with_reducible refine row_al ?_ _)); with_reducible refine hk13.keep _ _ 3 _ (by decide) ?_; ((try with_reducible refine row_drew ?_); first | (with_reducible refine alloc_at _ _ _ ?_; simp; done) | (with_reducible refine alloc_at2 _ _ _ _ ?_; simp; done) | (with_reducible refine alloc_at3 _ _ _ _ _ ?_; simp; done)))))) ?_; rintro e w15 ⟨A15, k15, rfl, hp15, hk15⟩; have hx15 := hk15.keep xk2 #[.int .i64 src, .int .i64 at_, .int .i64 len] 80 (0, 0) (by decide) (by ((repeat (first | with_reducible refine row_drew ?_ | with_reducible refine row_al ?_ _)); first | with_reducible exact hx14)))
                            | (go_at_call 34; have _ := hp13; refine Calls.mono (HC2.out _ _ _ _ (by ((repeat (first | with_reducible refine Pk.drew ?_ | with_reducible refine Pk.alloc ?_ _)); with_reducible exact hp13)) (by first | ((try with_reducible refine row_drew ?_); first | (with_reducible refine alloc_at _ _ _ ?_; simp; done) | (with_reducible refine alloc_at2 _ _ _ _ ?_; simp; done) | (with_reducible refine alloc_at3 _ _ _ _ _ ?_; simp; done)) | ((repeat (with_reducible refine row_al ?_ _)); with_reducible refine hk13.keep _ _ 3 _ (by decide) ?_; ((try with_reducible refine row_drew ?_); first | (with_reducible refine alloc_at _ _ _ ?_; simp; done) | (with_reducible refine alloc_at2 _ _ _ _ ?_; simp; done) | (with_reducible refine alloc_at3 _ _ _ _ _ ?_; simp; done))))) ?_; rintro e w14 ⟨A14, k14, rfl, hp14, hk14⟩; have hx14 := hk14.keep xk2 #[.int .i64 src, .int .i64 at_, .int .i64 len] 80 (0, 0) (by decide) (by ((repeat (first | with_reducible refine row_drew ?_ | with_reducible refine row_al ?_ _)); first | with_reducible exact hx13)))
                            | (go_at_call 34; refine Calls.mono (HC1.out _ _ _ _ (by ((repeat (first | with_reducible refine Pk.drew ?_ | with_reducible refine Pk.alloc ?_ _)); with_reducible exact HP12.out)) (by ((try with_reducible refine row_drew ?_); first | (with_reducible refine alloc_at _ _ _ ?_; simp; done) | (with_reducible refine alloc_at2 _ _ _ _ ?_; simp; done) | (with_reducible refine alloc_at3 _ _ _ _ _ ?_; simp; done)))) ?_; rintro e w13 ⟨A13, k13, rfl, hp13, hk13⟩; have hx13 := hk13.keep xk2 #[.int .i64 src, .int .i64 at_, .int .i64 len] 80 (0, 0) (by decide) (by ((repeat (first | with_reducible refine row_drew ?_ | with_reducible refine row_al ?_ _)); first | with_reducible exact HX12.out))))
                        all_goals
                          go_wp2_with fail
                          go_meet
                          exact ⟨A15, k15, rfl, Lib.hid (HGO.out _ _ _ hp15)⟩
                      case rest =>
                        obtain ⟨A15, k15, rfl, HI⟩ := hcut
                        go_wp2_with fail
                        go_roundw
                        case measure => simp [intOf]; omega
                        case rel => exact ⟨kp + 1, np + 1 + 4 + 1, k15, A15, by omega, by go_num, rfl, by omega, Lib.hid (by rw [HSNP.out]; simpa only [List.append_assoc] using HI.out)⟩
                    · obtain rfl : kp = parts.length := by omega
                      rw [List.take_length] at HPr
                      clear hlt3 hkp
                      go_wp2_with fail
                      go_roundw
                      case measure => simp [intOf]; omega
                      case rel => exact ⟨ks + 1, np, cp, AP, by omega, by go_num, rfl, by omega, Lib.hid (by rw [HSNS.out]; have h := HPr.out; rw [← HL4.out] at h; simpa only [List.append_assoc] using h)⟩
              · obtain rfl : ks = steps.length := by omega
                rw [List.take_length] at HPr
                clear hlt2 hks
                go_wp2_with fail
                go_roundw
                case measure => simp [intOf]; omega
                case rel => exact ⟨kw + 1, ns, cs, AS, by omega, by go_num, rfl, by omega, Lib.hid (by rw [HSNW.out]; have h := HPr.out; rw [← HL3.out] at h; simpa only [List.append_assoc] using h)⟩
          · obtain rfl : kw = Q.length := by omega
            have c9 : wr.cell? ⟨w.heap.size, 9, none⟩ = some (.slice TA tl.length tc) := HPr.out.cell 9
            rw [List.take_length] at HPr
            have HTL := Lib.hid ((HP.out.st.below HPr.out.low (Nat.le_refl _)).more HPr.out.low.size)
            have HTN := Lib.hid HP.out.no
            have hsz : nw + tl.length ≤ 1073741824 := by omega
            clear hlt hkw HP8'
            go_wp2_with (at_builtin; refine wp_app rfl _ _ (by rfl) HPr.out (by rfl) (by rfl) HTN.out rfl HTL.out hsz ?_)
            intro A9 k9 w9 hpx _hkx
            have HP9 := Lib.hid hpx
            clear hpx _hkx c9
            have HE : Hid (packJ (JnV.jn ⟨old, ⟨t0, t1, t2, t3, t4⟩, ⟨sz, SA, sc, st, WA, wq, Q⟩, TA, tc, tl⟩) = L2 ++ Q.flatMap eWv ++ tl) := Lib.hid (by rw [HRW.out, ← HL2.out, ← HL1.out]; simp only [List.append_assoc])
            go_wp2_with fail
            go_ret2
            exact ⟨.inl ⟨HYES.out, A9, k9, by rw [HE.out, show (L2 ++ Q.flatMap eWv ++ tl).length = nw + tl.length from by simpa only [List.append_assoc] using HP9.out.len]; rfl, by rw [HE.out, show (L2 ++ Q.flatMap eWv ++ tl).length = nw + tl.length from by simpa only [List.append_assoc] using HP9.out.len]; simpa only [List.append_assoc] using HP9.out.own.mono (Nat.le_succ _)⟩, HP9.out.low⟩
end Go.Proofs.YtblibmalommdkaaGreat
