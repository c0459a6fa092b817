/-
  The reference's Pack: a journal's bytes.
-/
import Derived.Test.YtblibmalommdkaaGreatPPack
import Derived.Test.YtblibmalommdkaaGreatDB
namespace Go.Proofs.YtblibmalommdkaaGreat
open Go.RowKit
open Re (OwnB RdB bcells leB leB_length Sup okS packS packS_length)
theorem flat_snoc {α : Type} {f : α → List Int} {xs : List α} {k : Nat} {x : α} (h : xs[k]? = some x) : (xs.take (k + 1)).flatMap f = (xs.take k).flatMap f ++ f x := by
  rw [Sc.take_snoc xs k x h, List.flatMap_append]; simp
/-- What either Pack answers. -/
def PackAns (v : JnV) (w : World) (z : Value) (e : Ending) (w' : World) : Prop :=
  ((MayJ v.jn ∧ ∃ A c, e = .returned (.tuple #[.slice A (packJ v.jn).length c, .int .i64 0]) ∧ OwnB w' w.heap.size A (packJ v.jn).length c (packJ v.jn)) ∨ (¬ MayJ v.jn ∧ e = .returned (.tuple #[.slice none 0 0, z]))) ∧ Below w.heap.size w w'
set_option maxRecDepth 100000 in
set_option maxHeartbeats 8000000 in
theorem RefPackJ_any (v : JnV) (w : World) (hP : JnOk w w.heap.size v) (hn : v.p.stash.length ≤ 60) (hw : v.p.waves.length ≤ 200) :
    Calls Tryz.prog 14 #[.agg v.cells] w fun e w' => PackAns v w (.int .i64 1) e w' := by
  have hfit : MayJ v.jn → F4 v.jn.old ∧ FitV v.p ∧ v.stash.length ≤ 1048577 := fun h => by
    have h1 := may_fits h hn (by simpa [JnV.jn, PlV.pln] using hw)
    exact ⟨h1.1, fit_rows h1.2.1, h1.2.2⟩
  have hrows := packJ_rows v
  obtain ⟨old, ⟨t0, t1, t2, t3, t4⟩, ⟨sz, SA, sc, st, WA, wq, Q⟩, TA, tc, tl⟩ := v
  have HFIT := Lib.hid hfit
  clear hfit
  unfold JnV.cells
  simp only at *
  have hb1 : Below w.heap.size w (w.alloc (.cells #[.int .i64 old, .int .i64 t0, .int .i64 t1, .int .i64 t2, .int .i64 t3, .int .i64 t4, .int .i64 sz, .slice SA st.length sc, .slice WA Q.length wq, .slice TA tl.length tc] 32)) := (Below.refl _ _).alloc (Nat.le_refl _) _
  have hcall := RefMayJ_any ⟨old, ⟨t0, t1, t2, t3, t4⟩, ⟨sz, SA, sc, st, WA, wq, Q⟩, TA, tc, tl⟩ (w.alloc (.cells #[.int .i64 old, .int .i64 t0, .int .i64 t1, .int .i64 t2, .int .i64 t3, .int .i64 t4, .int .i64 sz, .slice SA st.length sc, .slice WA Q.length wq, .slice TA tl.length tc] 32)) (hP.up hb1) (by simp only; omega) (by simp only; omega)
  unfold JnV.cells at hcall
  simp only at hcall
  have HX1 := Lib.hid (heap_alloc_new w (.cells #[.int .i64 old, .int .i64 t0, .int .i64 t1, .int .i64 t2, .int .i64 t3, .int .i64 t4, .int .i64 sz, .slice SA st.length sc, .slice WA Q.length wq, .slice TA tl.length tc] 32))
  have HB1 := Lib.hid hb1
  have HP := Lib.hid hP
  have HRW := Lib.hid hrows
  clear hrows hb1 hP
  go_enter Tryz.func14, Tryz.ntmps14
  go_upto_region 1 with (fail)
  generalize w.alloc (.cells #[.int .i64 old, .int .i64 t0, .int .i64 t1, .int .i64 t2, .int .i64 t3, .int .i64 t4, .int .i64 sz, .slice SA st.length sc, .slice WA Q.length wq, .slice TA tl.length tc] 32) = w1 at *
  obtain ⟨J, hJ⟩ : ∃ J, JnV.jn ⟨old, ⟨t0, t1, t2, t3, t4⟩, ⟨sz, SA, sc, st, WA, wq, Q⟩, TA, tc, tl⟩ = J := ⟨_, rfl⟩
  obtain ⟨mb, hmb⟩ : ∃ mb, mayJB (JnV.jn ⟨old, ⟨t0, t1, t2, t3, t4⟩, ⟨sz, SA, sc, st, WA, wq, Q⟩, TA, tc, tl⟩) = mb := ⟨_, rfl⟩
  rw [hmb] at hcall
  have HMB := Lib.hid hmb
  clear hmb
  have c0 : w1.cell? ⟨w.heap.size, 0, none⟩ = some (.int .i64 old) := cell_of_row _ _ 0 _ 32 (0, 0) HX1.out
  have c1 : w1.cell? ⟨w.heap.size, 1, none⟩ = some (.int .i64 t0) := cell_of_row _ _ 1 _ 32 (0, 0) HX1.out
  have c2 : w1.cell? ⟨w.heap.size, 2, none⟩ = some (.int .i64 t1) := cell_of_row _ _ 2 _ 32 (0, 0) HX1.out
  have c3 : w1.cell? ⟨w.heap.size, 3, none⟩ = some (.int .i64 t2) := cell_of_row _ _ 3 _ 32 (0, 0) HX1.out
  have c4 : w1.cell? ⟨w.heap.size, 4, none⟩ = some (.int .i64 t3) := cell_of_row _ _ 4 _ 32 (0, 0) HX1.out
  have c5 : w1.cell? ⟨w.heap.size, 5, none⟩ = some (.int .i64 t4) := cell_of_row _ _ 5 _ 32 (0, 0) HX1.out
  have c6 : w1.cell? ⟨w.heap.size, 6, none⟩ = some (.int .i64 sz) := cell_of_row _ _ 6 _ 32 (0, 0) HX1.out
  have c7 : w1.cell? ⟨w.heap.size, 7, none⟩ = some (.slice SA st.length sc) := cell_of_row _ _ 7 _ 32 (0, 0) HX1.out
  have c8 : w1.cell? ⟨w.heap.size, 8, none⟩ = some (.slice WA Q.length wq) := cell_of_row _ _ 8 _ 32 (0, 0) HX1.out
  have c9 : w1.cell? ⟨w.heap.size, 9, none⟩ = some (.slice TA tl.length tc) := cell_of_row _ _ 9 _ 32 (0, 0) HX1.out
  go_wp2_with fail
  refine hcall.mono ?_
  rintro e w2 ⟨rfl, hb⟩
  have HB2 := Lib.hid (HB1.out.trans (hb.mono HB1.out.size))
  have HX2 := Lib.hid ((hb.block _ (Array.getElem?_eq_some_iff.1 HX1.out).1).trans HX1.out)
  clear hb hcall HB1 HX1 c0 c1 c2 c3 c4 c5 c6 c7 c8 c9
  cases mb with
  | false =>
    have HNO : Hid (¬ MayJ (JnV.jn ⟨old, ⟨t0, t1, t2, t3, t4⟩, ⟨sz, SA, sc, st, WA, wq, Q⟩, TA, tc, tl⟩)) := Lib.hid (fun h => by have h1 := mayJB_of h; rw [HMB.out] at h1; cases h1)
    go_wp2_with fail
    go_ret2
    exact ⟨.inr ⟨HNO.out, rfl⟩, HB2.out⟩
  | true =>
    have HYES : Hid (MayJ (JnV.jn ⟨old, ⟨t0, t1, t2, t3, t4⟩, ⟨sz, SA, sc, st, WA, wq, Q⟩, TA, tc, tl⟩)) := Lib.hid (mayJB_is.1 HMB.out)
    obtain ⟨hold, hfv, htl⟩ := HFIT.out HYES.out
    have HF := Lib.hid hfv
    have HOLD := Lib.hid hold
    have HSUP : Hid (okS ⟨t0, t1, t2, t3, t4⟩) := Lib.hid HYES.out.2.2.1
    clear hfv hold hJ HMB HFIT
    have c0 : w2.cell? ⟨w.heap.size, 0, none⟩ = some (.int .i64 old) := cell_of_row _ _ 0 _ 32 (0, 0) HX2.out
    go_wp2_with fail
    refine (number4 old w2 HOLD.out).mono ?_
    rintro e w3 ⟨⟨g0, cg0, rfl, hown⟩, hb⟩
    have hs2 := (Array.getElem?_eq_some_iff.1 HX2.out).1
    have HP3 : Hid (Pk w w3 #[.int .i64 old, .int .i64 t0, .int .i64 t1, .int .i64 t2, .int .i64 t3, .int .i64 t4, .int .i64 sz, .slice SA st.length sc, .slice WA Q.length wq, .slice TA tl.length tc] (some ⟨g0, 0, none⟩) 4 cg0 (leB old 4)) := Lib.hid ⟨HB2.out.trans (hb.mono HB2.out.size), (hb.block _ hs2).trans HX2.out, hown.mono (by omega)⟩
    clear hb hown c0 HB2 HX2 hs2
    have c1 : w3.cell? ⟨w.heap.size, 1, none⟩ = some (.int .i64 t0) := HP3.out.cell 1
    have c2 : w3.cell? ⟨w.heap.size, 2, none⟩ = some (.int .i64 t1) := HP3.out.cell 2
    have c3 : w3.cell? ⟨w.heap.size, 3, none⟩ = some (.int .i64 t2) := HP3.out.cell 3
    have c4 : w3.cell? ⟨w.heap.size, 4, none⟩ = some (.int .i64 t3) := HP3.out.cell 4
    have c5 : w3.cell? ⟨w.heap.size, 5, none⟩ = some (.int .i64 t4) := HP3.out.cell 5
    have hsp := Re.RefPackS_yes ⟨t0, t1, t2, t3, t4⟩ w3 HSUP.out
    unfold Re.Sup.cells at hsp
    simp only at hsp
    go_wp2_with fail
    refine hsp.mono ?_
    rintro e w4 ⟨⟨g1, cg1, rfl, hown⟩, hb⟩
    have HP4 := Lib.hid (HP3.out.below hb)
    have HR4 := Lib.hid hown.rd
    clear hb hown hsp HP3 c1 c2 c3 c4 c5
    go_wp2_with (at_builtin; refine wp_app rfl _ _ (by rfl) HP4.out (by rfl) (by rfl) (fun h => by cases h) (packS_length _) HR4.out (by omega) ?_)
    intro A5 c5 w5 hp5 _hk5
    have HP5 := Lib.hid hp5
    clear hp5 HP4 HR4 _hk5
    have c6 : w5.cell? ⟨w.heap.size, 6, none⟩ = some (.int .i64 sz) := HP5.out.cell 6
    go_wp2_with fail
    refine (number4 (sz) w5 (HF.out.size)).mono ?_
    rintro e wn ⟨⟨gn, cn, rfl, hown⟩, hb⟩
    have HPn := Lib.hid (HP5.out.below hb)
    have HRn := Lib.hid hown.rd
    have HBn := Lib.hid hb
    clear hb hown c6
    go_wp2_with (at_builtin; refine wp_app rfl _ _ (by rfl) HPn.out (by rfl) (by rfl) (fun h => by cases h) (leB_length _ _) HRn.out (by omega) ?_)
    intro A6 k6 w6 hpx hkx
    have HP6 := Lib.hid hpx; have HK6 := Lib.hid ((Kx.of HBn.out).trans hkx)
    clear hpx hkx HPn HRn HBn
    clear HP5 HK6
    have c7 : w6.cell? ⟨w.heap.size, 7, none⟩ = some (.slice SA st.length sc) := HP6.out.cell 7
    go_wp2_with fail
    refine (number4 ((st.length : Int)) w6 (⟨by omega, by have := HF.out.sl; simp only at this; omega⟩)).mono ?_
    rintro e wn ⟨⟨gn, cn, rfl, hown⟩, hb⟩
    have HPn := Lib.hid (HP6.out.below hb)
    have HRn := Lib.hid hown.rd
    have HBn := Lib.hid hb
    clear hb hown c7
    go_wp2_with (at_builtin; refine wp_app rfl _ _ (by rfl) HPn.out (by rfl) (by rfl) (fun h => by cases h) (leB_length _ _) HRn.out (by omega) ?_)
    intro A7 k7 w7 hpx hkx
    have HP7 := Lib.hid hpx; have HK7 := Lib.hid ((Kx.of HBn.out).trans hkx)
    clear hpx hkx HPn HRn HBn
    clear HP6 HK7
    have hstl : st.length ≤ 60 := HF.out.sl
    have hwl : Q.length ≤ 200 := HF.out.wl
    obtain ⟨L1, hL1⟩ : ∃ L, leB old 4 ++ packS ⟨t0, t1, t2, t3, t4⟩ ++ leB sz 4 ++ leB (st.length : Int) 4 = L := ⟨_, rfl⟩
    have HP7' : Hid (Pk w w7 #[.int .i64 old, .int .i64 t0, .int .i64 t1, .int .i64 t2, .int .i64 t3, .int .i64 t4, .int .i64 sz, .slice SA st.length sc, .slice WA Q.length wq, .slice TA tl.length tc] A7 (4 + 64 + 4 + 4) k7 L1) := Lib.hid (hL1 ▸ HP7.out)
    have HL1 := Lib.hid hL1
    clear hL1 HP7
    go_wp2_with fail
    go_loopw [4, 7] (fun b i wr => ∃ (k n c : Nat) (A : Option Addr), k ≤ st.length ∧ i = .int .i64 k ∧ b = .slice A n c ∧ n ≤ 76 + 8 * k ∧ Hid (Pk w wr #[.int .i64 old, .int .i64 t0, .int .i64 t1, .int .i64 t2, .int .i64 t3, .int .i64 t4, .int .i64 sz, .slice SA st.length sc, .slice WA Q.length wq, .slice TA tl.length tc] A n c (L1 ++ (st.take k).flatMap bRange))) (fun _ i _ => st.length - (intOf i).toNat)
    case atStart => exact ⟨0, 4 + 64 + 4 + 4, k7, A7, Nat.zero_le _, rfl, rfl, by omega, Lib.hid (by simpa using HP7'.out)⟩
    case round =>
      obtain ⟨k, n, c, A, hk, rfl, rfl, hnk, HPr⟩ := hrel
      by_cases hlt : k < st.length
      · obtain ⟨r, hr⟩ := Sc.get_some st k hlt
        obtain ⟨rb, ro, hSA, _, d0, _⟩ := (HP.out.p.st.below HPr.out.low (Nat.le_refl _)) k r hr
        have hin := List.mem_of_getElem? hr
        have hfr := HF.out.st r hin
        have HFR := Lib.hid hfr
        have HSN : Hid ((st.take (k + 1)).flatMap bRange = (st.take k).flatMap bRange ++ (leB r.1 4 ++ leB r.2 4)) := Lib.hid (flat_snoc hr)
        have HRR := Lib.hid hr
        simp only at hSA
        subst hSA
        clear hin hfr hr
        have c7 : wr.cell? ⟨w.heap.size, 7, none⟩ = some (.slice (some ⟨rb, ro, none⟩) st.length sc) := HPr.out.cell 7
        go_wp2_with fail
        refine (number4 (r.1) wr (HFR.out.1)).mono ?_
        rintro e wn ⟨⟨gn, cn, rfl, hown⟩, hb⟩
        have HPn := Lib.hid (HPr.out.below hb)
        have HRn := Lib.hid hown.rd
        have HBn := Lib.hid hb
        clear hb hown c7
        go_wp2_with (at_builtin; refine wp_app rfl _ _ (by rfl) HPn.out (by rfl) (by rfl) (fun h => by cases h) (leB_length _ _) HRn.out (by omega) ?_)
        intro A8 k8 w8 hpx hkx
        have HP8 := Lib.hid hpx; have HK8 := Lib.hid ((Kx.of HBn.out).trans hkx)
        clear hpx hkx HPn HRn HBn
        obtain ⟨rb', ro', hSA, _, _, d1⟩ := (HP.out.p.st.below HP8.out.low (Nat.le_refl _)) k r HRR.out
        simp only at hSA
        injection hSA with hSA
        injection hSA with h1 h2
        subst h1; subst h2
        clear d0 HPr HK8
        have c7 : w8.cell? ⟨w.heap.size, 7, none⟩ = some (.slice (some ⟨rb, ro, none⟩) st.length sc) := HP8.out.cell 7
        go_wp2_with fail
        refine (number4 (r.2) w8 (HFR.out.2)).mono ?_
        rintro e wn ⟨⟨gn, cn, rfl, hown⟩, hb⟩
        have HPn := Lib.hid (HP8.out.below hb)
        have HRn := Lib.hid hown.rd
        have HBn := Lib.hid hb
        clear hb hown c7
        go_wp2_with (at_builtin; refine wp_app rfl _ _ (by rfl) HPn.out (by rfl) (by rfl) (fun h => by cases h) (leB_length _ _) HRn.out (by omega) ?_)
        intro A9 k9 w9 hpx hkx
        have HP9 := Lib.hid hpx; have HK9 := Lib.hid ((Kx.of HBn.out).trans hkx)
        clear hpx hkx HPn HRn HBn
        clear d1 HP8 HK9
        go_wp2_with fail
        go_roundw
        case measure => simp [intOf]; omega
        case rel => exact ⟨k + 1, n + 4 + 4, k9, A9, by omega, by go_num, rfl, by omega, Lib.hid (by rw [HSN.out]; simp only [← List.append_assoc]; simpa only [List.append_assoc] using HP9.out)⟩
      · obtain rfl : k = st.length := by omega
        rw [List.take_length] at HPr
        clear hlt hk HP7'
        have c7 : wr.cell? ⟨w.heap.size, 7, none⟩ = some (.slice SA st.length sc) := HPr.out.cell 7
        have c8 : wr.cell? ⟨w.heap.size, 8, none⟩ = some (.slice WA Q.length wq) := HPr.out.cell 8
        go_wp2_with fail
        refine (number4 ((Q.length : Int)) wr (⟨by omega, by omega⟩)).mono ?_
        rintro e wn ⟨⟨gn, cn, rfl, hown⟩, hb⟩
        have HPn := Lib.hid (HPr.out.below hb)
        have HRn := Lib.hid hown.rd
        have HBn := Lib.hid hb
        clear hb hown c7 c8
        go_wp2_with (at_builtin; refine wp_app rfl _ _ (by rfl) HPn.out (by rfl) (by rfl) (fun h => by cases h) (leB_length _ _) HRn.out (by omega) ?_)
        intro A8 k8 w8 hpx hkx
        have HP8 := Lib.hid hpx; have HK8 := Lib.hid ((Kx.of HBn.out).trans hkx)
        clear hpx hkx HPn HRn HBn
        obtain ⟨L2, hL2⟩ : ∃ L, L1 ++ st.flatMap bRange ++ leB (Q.length : Int) 4 = L := ⟨_, rfl⟩
        have HP8' : Hid (Pk w w8 #[.int .i64 old, .int .i64 t0, .int .i64 t1, .int .i64 t2, .int .i64 t3, .int .i64 t4, .int .i64 sz, .slice SA st.length sc, .slice WA Q.length wq, .slice TA tl.length tc] A8 (n + 4) k8 L2) := Lib.hid (by rw [← hL2]; simpa only [List.append_assoc] using HP8.out)
        have HL2 := Lib.hid hL2
        clear hL2 HP8 HPr HK8
        have hn8 : n + 4 ≤ 600 := by omega
        go_wp2_with fail
        go_loopw [4, 8, 9, 10, 11, 12] (fun b i _ _ _ _ wr => ∃ (k n c : Nat) (A : Option Addr), k ≤ Q.length ∧ i = .int .i64 k ∧ b = .slice A n c ∧ n ≤ 600 + 24897 * k ∧ Hid (Pk w wr #[.int .i64 old, .int .i64 t0, .int .i64 t1, .int .i64 t2, .int .i64 t3, .int .i64 t4, .int .i64 sz, .slice SA st.length sc, .slice WA Q.length wq, .slice TA tl.length tc] A n c (L2 ++ (Q.take k).flatMap eWv))) (fun _ i _ _ _ _ _ => Q.length - (intOf i).toNat)
        case atStart => exact ⟨0, n + 4, k8, A8, Nat.zero_le _, rfl, rfl, by omega, Lib.hid (by simpa using HP8'.out)⟩
        case round =>
          obtain ⟨kw, nw, cw, AW, hkw, rfl, rfl, hnw, HPr⟩ := hrel
          by_cases hlt : kw < Q.length
          · obtain ⟨v, hv⟩ := Sc.get_some Q kw hlt
            obtain ⟨wb, woff, hWA, hwb, w00, hwv⟩ := HP.out.p.wv kw v hv
            have wc0 := (HPr.out.low.cell (p := ⟨wb, woff + kw, none⟩) hwb).trans w00
            have hfw := HF.out.w v (List.mem_of_getElem? hv)
            have HSNW0 := Lib.hid (flat_snoc (f := eWv) hv)
            have HWV := Lib.hid hwv
            obtain ⟨VA, vc, steps⟩ := v
            have HSNW : Hid ((Q.take (kw + 1)).flatMap eWv = (Q.take kw).flatMap eWv ++ (leB (steps.length : Int) 1 ++ steps.flatMap eSt)) := Lib.hid HSNW0.out
            clear HSNW0
            simp only at hWA wc0 hfw
            have hvl := hfw.1
            have HFW := Lib.hid hfw.2
            subst hWA
            clear w00 hwv hv hfw
            have c8 : wr.cell? ⟨w.heap.size, 8, none⟩ = some (.slice (some ⟨wb, woff, none⟩) Q.length wq) := HPr.out.cell 8
            go_wp2_with (at_builtin; refine wp_app rfl _ _ (by rfl) (HPr.out.alloc _) (by rfl) (by rfl) (fun h => by cases h) (leB_length ((steps.length : Int)) 1) (byte_read _ _ _ (by omega)) (by omega) ?_)
            intro A9 k9 w9 hpx hkx
            have HP9 := Lib.hid hpx; have HK9 := Lib.hid ((Kx.alloc _ _).trans hkx)
            clear hpx hkx
            obtain ⟨L3, hL3⟩ : ∃ L, L2 ++ (Q.take kw).flatMap eWv = L := ⟨_, rfl⟩
            have HP9' : Hid (Pk w w9 #[.int .i64 old, .int .i64 t0, .int .i64 t1, .int .i64 t2, .int .i64 t3, .int .i64 t4, .int .i64 sz, .slice SA st.length sc, .slice (some ⟨wb, woff, none⟩) Q.length wq, .slice TA tl.length tc] A9 (nw + 1) k9 (L3 ++ leB (steps.length : Int) 1)) := Lib.hid (by rw [← hL3]; simpa only [List.append_assoc] using HP9.out)
            have HL3 := Lib.hid hL3
            clear hL3 HP9 HK9 HPr wc0 c8
            go_wp2_with fail
            go_loopw [4, 10, 11, 12] (fun b i _ _ wr => ∃ (k n c : Nat) (A : Option Addr), k ≤ steps.length ∧ i = .int .i64 k ∧ b = .slice A n c ∧ n ≤ nw + 1 + 389 * k ∧ Hid (Pk w wr #[.int .i64 old, .int .i64 t0, .int .i64 t1, .int .i64 t2, .int .i64 t3, .int .i64 t4, .int .i64 sz, .slice SA st.length sc, .slice (some ⟨wb, woff, none⟩) Q.length wq, .slice TA tl.length tc] A n c (L3 ++ (leB (steps.length : Int) 1 ++ (steps.take k).flatMap eSt)))) (fun _ i _ _ _ => steps.length - (intOf i).toNat)
            case atStart => exact ⟨0, nw + 1, k9, A9, Nat.zero_le _, rfl, rfl, by omega, Lib.hid (by simpa using HP9'.out)⟩
            case round =>
              obtain ⟨ks, ns, cs, AS, hks, rfl, rfl, hns, HPr⟩ := hrel
              by_cases hlt2 : ks < steps.length
              · obtain ⟨s, hs⟩ := Sc.get_some steps ks hlt2
                obtain ⟨sb, so, hVA, _, s0, s1, hok⟩ := (HWV.out.rd.below HPr.out.low (Nat.le_refl _)) ks s hs
                have hfs := HFW.out s (List.mem_of_getElem? hs)
                have HSNS0 := Lib.hid (flat_snoc (f := eSt) hs)
                have HSG := Lib.hid hs
                obtain ⟨blk, PA, pc, parts⟩ := s
                have HSNS : Hid ((steps.take (ks + 1)).flatMap eSt = (steps.take ks).flatMap eSt ++ (leB blk 4 ++ (leB (parts.length : Int) 1 ++ parts.flatMap bPart))) := Lib.hid HSNS0.out
                clear HSNS0
                simp only at hVA s0 s1 hfs
                have HFB := Lib.hid hfs.1
                have hpl := hfs.2.1
                have HFX := Lib.hid hfs.2.2
                subst hVA
                clear hs hfs hok s1
                go_wp2_with fail
                refine (number4 (blk) wr (HFB.out)).mono ?_
                rintro e wn ⟨⟨gn, cn, rfl, hown⟩, hb⟩
                have HPn := Lib.hid (HPr.out.below hb)
                have HRn := Lib.hid hown.rd
                have HBn := Lib.hid hb
                clear hb hown 
                go_wp2_with (at_builtin; refine wp_app rfl _ _ (by rfl) HPn.out (by rfl) (by rfl) (fun h => by cases h) (leB_length _ _) HRn.out (by omega) ?_)
                intro A10 k10 w10 hpx hkx
                have HP10 := Lib.hid hpx; have HK10 := Lib.hid ((Kx.of HBn.out).trans hkx)
                clear hpx hkx HPn HRn HBn
                obtain ⟨sb', so', hVA, _, _, s1, hok⟩ := (HWV.out.rd.below HP10.out.low (Nat.le_refl _)) ks _ HSG.out
                simp only at hVA s1
                injection hVA with hVA
                injection hVA with h1 h2
                subst h1; subst h2
                clear s0 HPr HK10 hok
                go_wp2_with (at_builtin; refine wp_app rfl _ _ (by rfl) (HP10.out.alloc _) (by rfl) (by rfl) (fun h => by cases h) (leB_length ((parts.length : Int)) 1) (byte_read _ _ _ (by omega)) (by omega) ?_)
                intro A11 k11 w11 hpx hkx
                have HP11 := Lib.hid hpx; have HK11 := Lib.hid ((Kx.alloc _ _).trans hkx)
                clear hpx hkx
                obtain ⟨sb', so', hVA, _, _, s2, hok⟩ := (HWV.out.rd.below HP11.out.low (Nat.le_refl _)) ks _ HSG.out
                simp only at hVA s2
                injection hVA with hVA
                injection hVA with h1 h2
                subst h1; subst h2
                obtain ⟨L4, hL4⟩ : ∃ L, L3 ++ (leB (steps.length : Int) 1 ++ (steps.take ks).flatMap eSt) = L := ⟨_, rfl⟩
                have HP11' : Hid (Pk w w11 #[.int .i64 old, .int .i64 t0, .int .i64 t1, .int .i64 t2, .int .i64 t3, .int .i64 t4, .int .i64 sz, .slice SA st.length sc, .slice (some ⟨wb, woff, none⟩) Q.length wq, .slice TA tl.length tc] A11 (ns + 4 + 1) k11 (L4 ++ (leB blk 4 ++ leB (parts.length : Int) 1))) := Lib.hid (by rw [← hL4]; simpa only [List.append_assoc] using HP11.out)
                have HL4 := Lib.hid hL4
                clear hL4 HP10 HP11 HK11 s1 s2 hok
                go_wp2_with fail
                go_loopw [4, 11, 12] (fun b i _ wr => ∃ (k n c : Nat) (A : Option Addr), k ≤ parts.length ∧ i = .int .i64 k ∧ b = .slice A n c ∧ n ≤ ns + 4 + 1 + 6 * k ∧ Hid (Pk w wr #[.int .i64 old, .int .i64 t0, .int .i64 t1, .int .i64 t2, .int .i64 t3, .int .i64 t4, .int .i64 sz, .slice SA st.length sc, .slice (some ⟨wb, woff, none⟩) Q.length wq, .slice TA tl.length tc] A n c (L4 ++ (leB blk 4 ++ (leB (parts.length : Int) 1 ++ (parts.take k).flatMap bPart))))) (fun _ i _ _ => parts.length - (intOf i).toNat)
                case atStart => exact ⟨0, ns + 4 + 1, k11, A11, Nat.zero_le _, rfl, rfl, by omega, Lib.hid (by simpa using HP11'.out)⟩
                case round =>
                  obtain ⟨kp, np, cp, AP, hkp, rfl, rfl, hnp, HPr⟩ := hrel
                  obtain ⟨sb', so', hVA, _, _, s2, hok⟩ := (HWV.out.rd.below HPr.out.low (Nat.le_refl _)) ks _ HSG.out
                  simp only at hVA s2
                  injection hVA with hVA
                  injection hVA with h1 h2
                  subst h1; subst h2
                  by_cases hlt3 : kp < parts.length
                  · obtain ⟨x, hx⟩ := Sc.get_some parts kp hlt3
                    obtain ⟨xb, xo, hPA, _, q0, q1, q2⟩ := hok.rd kp x hx
                    have HSNP0 := Lib.hid (flat_snoc (f := bPart) hx)
                    obtain ⟨f0, f1, f2⟩ := HFX.out x (List.mem_of_getElem? hx)
                    obtain ⟨src, at_, len⟩ := x
                    have HSNP : Hid ((parts.take (kp + 1)).flatMap bPart = (parts.take kp).flatMap bPart ++ (leB src 1 ++ (leB at_ 4 ++ leB len 1))) := Lib.hid HSNP0.out
                    clear HSNP0
                    simp only at hPA q0 q1 q2 f0 f1 f2
                    have HF1 := Lib.hid f1
                    obtain ⟨f0a, f0b⟩ := f0
                    obtain ⟨f2a, f2b⟩ := f2
                    subst hPA
                    clear hx hok f1
                    go_upto_region 28 with (fail)
                    have HP12 := Lib.hid (HPr.out.alloc (.cells #[.int .i64 src, .int .i64 at_, .int .i64 len] 80))
                    have HX12 := Lib.hid (heap_alloc_new wr (.cells #[.int .i64 src, .int .i64 at_, .int .i64 len] 80))
                    clear HPr q0 q1 q2 s2
                    generalize wr.alloc (.cells #[.int .i64 src, .int .i64 at_, .int .i64 len] 80) = w12 at *
                    obtain ⟨xk, hxk⟩ : ∃ xk, xk = wr.heap.size := ⟨_, rfl⟩
                    rw [← hxk] at HX12 ⊢
                    clear hxk
                    have d0 : w12.cell? ⟨xk, 0, none⟩ = some (.int .i64 src) := cell_of_row _ _ 0 _ 80 (0, 0) HX12.out
                    go_wp2_with (at_builtin; refine wp_app rfl _ _ (by rfl) (HP12.out.alloc _) (by rfl) (by rfl) (fun h => by cases h) (leB_length (src) 1) (byte_read _ _ _ (by omega)) (by omega) ?_)
                    intro A13 k13 w13 hpx hkx
                    have HP13 := Lib.hid hpx; have HK13 := Lib.hid ((Kx.alloc _ _).trans hkx)
                    clear hpx hkx
                    have HX13 := Lib.hid (HK13.out.keep _ _ 80 _ (by decide) HX12.out)
                    clear d0 HP12 HX12 HK13
                    have d0 : w13.cell? ⟨xk, 1, none⟩ = some (.int .i64 at_) := cell_of_row _ _ 1 _ 80 (0, 0) HX13.out
                    go_wp2_with fail
                    refine (number4 (at_) w13 (HF1.out)).mono ?_
                    rintro e wn ⟨⟨gn, cn, rfl, hown⟩, hb⟩
                    have HPn := Lib.hid (HP13.out.below hb)
                    have HRn := Lib.hid hown.rd
                    have HBn := Lib.hid hb
                    clear hb hown 
                    go_wp2_with (at_builtin; refine wp_app rfl _ _ (by rfl) HPn.out (by rfl) (by rfl) (fun h => by cases h) (leB_length _ _) HRn.out (by omega) ?_)
                    intro A14 k14 w14 hpx hkx
                    have HP14 := Lib.hid hpx; have HK14 := Lib.hid ((Kx.of HBn.out).trans hkx)
                    clear hpx hkx HPn HRn HBn
                    have HX14 := Lib.hid (HK14.out.keep _ _ 80 _ (by decide) HX13.out)
                    clear d0 HP13 HX13 HK14
                    have d0 : w14.cell? ⟨xk, 2, none⟩ = some (.int .i64 len) := cell_of_row _ _ 2 _ 80 (0, 0) HX14.out
                    go_wp2_with (at_builtin; refine wp_app rfl _ _ (by rfl) (HP14.out.alloc _) (by rfl) (by rfl) (fun h => by cases h) (leB_length (len) 1) (byte_read _ _ _ (by omega)) (by omega) ?_)
                    intro A15 k15 w15 hpx hkx
                    have HP15 := Lib.hid hpx; have HK15 := Lib.hid ((Kx.alloc _ _).trans hkx)
                    clear hpx hkx
                    clear d0 HP14 HX14 HK15
                    go_wp2_with fail
                    go_roundw
                    case measure => simp [intOf]; omega
                    case rel => exact ⟨kp + 1, np + 1 + 4 + 1, k15, A15, by omega, by go_num, rfl, by omega, Lib.hid (by rw [HSNP.out]; simpa only [List.append_assoc] using HP15.out)⟩
                  · obtain rfl : kp = parts.length := by omega
                    rw [List.take_length] at HPr
                    clear hlt3 hkp hok
                    go_wp2_with fail
                    clear s2
                    go_roundw
                    case measure => simp [intOf]; omega
                    case rel => exact ⟨ks + 1, np, cp, AP, by omega, by go_num, rfl, by omega, Lib.hid (by rw [HSNS.out]; have h := HPr.out; rw [← HL4.out] at h; simpa only [List.append_assoc] using h)⟩
              · obtain rfl : ks = steps.length := by omega
                rw [List.take_length] at HPr
                clear hlt2 hks
                go_wp2_with fail
                go_roundw
                case measure => simp [intOf]; omega
                case rel => exact ⟨kw + 1, ns, cs, AS, by omega, by go_num, rfl, by omega, Lib.hid (by rw [HSNW.out]; have h := HPr.out; rw [← HL3.out] at h; simpa only [List.append_assoc] using h)⟩
          · obtain rfl : kw = Q.length := by omega
            have c7 : wr.cell? ⟨w.heap.size, 7, none⟩ = some (.slice SA st.length sc) := HPr.out.cell 7
            have c8 : wr.cell? ⟨w.heap.size, 8, none⟩ = some (.slice WA Q.length wq) := HPr.out.cell 8
            have c9 : wr.cell? ⟨w.heap.size, 9, none⟩ = some (.slice TA tl.length tc) := HPr.out.cell 9
            rw [List.take_length] at HPr
            have HTL := Lib.hid ((HP.out.st.below HPr.out.low (Nat.le_refl _)).more HPr.out.low.size)
            have HTN := Lib.hid HP.out.no
            have hsz : nw + tl.length ≤ 1073741824 := by omega
            clear hlt hkw HP8'
            go_wp2_with (at_builtin; refine wp_app rfl _ _ (by rfl) HPr.out (by rfl) (by rfl) HTN.out rfl HTL.out hsz ?_)
            intro A9 k9 w9 hpx _hkx
            have HP9 := Lib.hid hpx
            clear hpx _hkx c7 c8 c9
            have HE : Hid (packJ (JnV.jn ⟨old, ⟨t0, t1, t2, t3, t4⟩, ⟨sz, SA, sc, st, WA, wq, Q⟩, TA, tc, tl⟩) = L2 ++ Q.flatMap eWv ++ tl) := Lib.hid (by rw [HRW.out, ← HL2.out, ← HL1.out]; try simp only [List.append_assoc])
            go_wp2_with fail
            go_ret2
            exact ⟨.inl ⟨HYES.out, A9, k9, by rw [HE.out, show (L2 ++ Q.flatMap eWv ++ tl).length = nw + tl.length from by simpa only [List.append_assoc] using HP9.out.len]; rfl, by rw [HE.out, show (L2 ++ Q.flatMap eWv ++ tl).length = nw + tl.length from by simpa only [List.append_assoc] using HP9.out.len]; simpa only [List.append_assoc] using HP9.out.own.mono (Nat.le_succ _)⟩, HP9.out.low⟩
end Go.Proofs.YtblibmalommdkaaGreat
