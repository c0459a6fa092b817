/-
  DB: texts of one kind, one behind the other.
-/
import Derived.Test.YtblibmalommdkaaGreatRMay
import Derived.Test.YtblibmalommdkaaGreatMCheck
import Derived.Test.YtblibmalommdkaaGreatRC
import Derived.Test.YtblibmalommdkaaGreatRD
import Derived.Test.YtblibmalommdkaaGreatDA
import Derived.Test.YtblibmalommdkaaGreatWPlan
import Derived.Test.YtblibmalommdkaaGreatUOpen
import Derived.Test.YtblibmalommdkaaGreatMSame
import Derived.Test.YtblibmalommdkaaGreatEA
/-
  redo.may: whether a journal may be.
-/
namespace Go.Proofs.YtblibmalommdkaaGreat
open Go.RowKit
open Re (Sup okS RdB)
set_option maxRecDepth 100000 in
set_option maxHeartbeats 8000000 in
/-- May a journal be? -/
theorem MayJ_any (v : JnV) (w : World) (hP : JnOk w w.heap.size v) (hn : v.p.stash.length ≤ 100000) (hw : v.p.waves.length ≤ 1000000) :
    Calls Tryz.prog 27 #[.agg v.cells] w fun e w' => e = .returned (.bool (mayJB v.jn)) ∧ Below w.heap.size w w' := by
  obtain ⟨old, ⟨t0, t1, t2, t3, t4⟩, ⟨sz, SA, sc, st, WA, wq, Q⟩, TA, tc, tl⟩ := v
  unfold JnV.cells
  simp only at *
  obtain ⟨CS, hCS⟩ : ∃ CS : Array Value, #[.int .i64 old, .int .i64 t0, .int .i64 t1, .int .i64 t2, .int .i64 t3, .int .i64 t4, .int .i64 sz, .slice SA st.length sc, .slice WA Q.length wq, .slice TA tl.length tc] = CS := ⟨_, rfl⟩
  have hb1 : Below w.heap.size w (w.alloc (.cells CS 32)) := (Below.refl _ _).alloc (Nat.le_refl _) _
  have hx := heap_alloc_new w (.cells CS 32)
  rw [← hCS] at hb1 hx
  have HB := Lib.hid hb1; have HX := Lib.hid hx; have HP := Lib.hid hP
  have hmj : MayJ (JnV.jn ⟨old, ⟨t0, t1, t2, t3, t4⟩, ⟨sz, SA, sc, st, WA, wq, Q⟩, TA, tc, tl⟩) ↔ (0 ≤ old ∧ old ≤ 1048576 ∧ okS ⟨t0, t1, t2, t3, t4⟩ ∧ t4 = sz ∧ PlanP (PlV.pln ⟨sz, SA, sc, st, WA, wq, Q⟩) old t3 ∧ (tl.length : Int) = tot st) := Iff.rfl
  obtain ⟨J, hJ⟩ : ∃ J, JnV.jn ⟨old, ⟨t0, t1, t2, t3, t4⟩, ⟨sz, SA, sc, st, WA, wq, Q⟩, TA, tc, tl⟩ = J := ⟨_, rfl⟩
  rw [hJ] at hmj ⊢
  have HMJ := Lib.hid hmj
  have HPP := Lib.hid (hP.p)
  clear hmj
  clear hb1 hx hP hJ hCS
  obtain ⟨bb, hbb⟩ : ∃ bb, mayJB J = bb := ⟨_, rfl⟩
  rw [hbb]
  have HBB := Lib.hid hbb
  clear hbb
  have HNT := Lib.hid hn; have HNW := Lib.hid hw
  clear hn hw
  go_enter Tryz.func27, Tryz.ntmps27
  go_upto_region 1 with (fail)
  generalize w.alloc (.cells #[.int .i64 old, .int .i64 t0, .int .i64 t1, .int .i64 t2, .int .i64 t3, .int .i64 t4, .int .i64 sz, .slice SA st.length sc, .slice WA Q.length wq, .slice TA tl.length tc] 32) = w1 at *
  have c0 : ∀ q : Qs w1, q.1.cell? ⟨w.heap.size, 0, Option.none⟩ = some (.int .i64 old) := fun q => q.cell (cell_of_row _ _ 0 _ 32 (0, 0) HX.out)
  have c1 : ∀ q : Qs w1, q.1.cell? ⟨w.heap.size, 1, Option.none⟩ = some (.int .i64 t0) := fun q => q.cell (cell_of_row _ _ 1 _ 32 (0, 0) HX.out)
  have c2 : ∀ q : Qs w1, q.1.cell? ⟨w.heap.size, 2, Option.none⟩ = some (.int .i64 t1) := fun q => q.cell (cell_of_row _ _ 2 _ 32 (0, 0) HX.out)
  have c3 : ∀ q : Qs w1, q.1.cell? ⟨w.heap.size, 3, Option.none⟩ = some (.int .i64 t2) := fun q => q.cell (cell_of_row _ _ 3 _ 32 (0, 0) HX.out)
  have c4 : ∀ q : Qs w1, q.1.cell? ⟨w.heap.size, 4, Option.none⟩ = some (.int .i64 t3) := fun q => q.cell (cell_of_row _ _ 4 _ 32 (0, 0) HX.out)
  have c5 : ∀ q : Qs w1, q.1.cell? ⟨w.heap.size, 5, Option.none⟩ = some (.int .i64 t4) := fun q => q.cell (cell_of_row _ _ 5 _ 32 (0, 0) HX.out)
  have c6 : ∀ q : Qs w1, q.1.cell? ⟨w.heap.size, 6, Option.none⟩ = some (.int .i64 sz) := fun q => q.cell (cell_of_row _ _ 6 _ 32 (0, 0) HX.out)
  have c7 : ∀ q : Qs w1, q.1.cell? ⟨w.heap.size, 7, Option.none⟩ = some (.slice SA st.length sc) := fun q => q.cell (cell_of_row _ _ 7 _ 32 (0, 0) HX.out)
  have c8 : ∀ q : Qs w1, q.1.cell? ⟨w.heap.size, 8, Option.none⟩ = some (.slice WA Q.length wq) := fun q => q.cell (cell_of_row _ _ 8 _ 32 (0, 0) HX.out)
  have c9 : ∀ q : Qs w1, q.1.cell? ⟨w.heap.size, 9, Option.none⟩ = some (.slice TA tl.length tc) := fun q => q.cell (cell_of_row _ _ 9 _ 32 (0, 0) HX.out)
  by_cases h0 : 0 ≤ old
  rotate_left
  · have g0 : ¬ (0 : Int) ≤ old := h0
    refine wp_region_below (by kernel_rfl) (by kernel_rfl) ?_
    repeat (go_big_quiet_step (fail))
    refine wpQuiet_nil ?_
    rintro _ ⟨q, rfl⟩
    have HQ := Lib.hid (HB.out.trans (q.2.mono HB.out.size))
    clear c0 c1 c2 c3 c4 c5 c6 c7 c8 c9
    generalize q.1 = W8 at *
    go_wp2_with fail
    go_ret
    exact ⟨by rw [← HBB.out, mayJB_not (fun h => by have := (HMJ.out.1 h).1; omega)]; rfl, HQ.out⟩
  by_cases h1 : old ≤ 1048576
  rotate_left
  · skip
    refine wp_region_below (by kernel_rfl) (by kernel_rfl) ?_
    repeat (go_big_quiet_step (fail))
    refine wpQuiet_nil ?_
    rintro _ ⟨q, rfl⟩
    have HQ := Lib.hid (HB.out.trans (q.2.mono HB.out.size))
    clear c0 c1 c2 c3 c4 c5 c6 c7 c8 c9
    generalize q.1 = W8 at *
    go_wp2_with fail
    go_ret
    exact ⟨by rw [← HBB.out, mayJB_not (fun h => by have := (HMJ.out.1 h).2.1; omega)]; rfl, HQ.out⟩
  have hS : ∀ q : Qs w1, Calls Tryz.prog 43 #[.agg #[.int .i64 t0, .int .i64 t1, .int .i64 t2, .int .i64 t3, .int .i64 t4]] q.1 fun e w'' => e = .returned (.bool (decide (okS ⟨t0, t1, t2, t3, t4⟩))) ∧ ∃ q' : Qs w1, w'' = q'.1 := fun q => q.calls (Re.MayS_any ⟨t0, t1, t2, t3, t4⟩ q.1)
  by_cases h2 : okS ⟨t0, t1, t2, t3, t4⟩
  rotate_left
  · rw [decide_eq_false h2] at hS
    refine wp_region_below (by kernel_rfl) (by kernel_rfl) ?_
    repeat (go_big_quiet_step (exact hS _))
    refine wpQuiet_nil ?_
    rintro _ ⟨q, rfl⟩
    have HQ := Lib.hid (HB.out.trans (q.2.mono HB.out.size))
    clear c0 c1 c2 c3 c4 c5 c6 c7 c8 c9
    generalize q.1 = W8 at *
    go_wp2_with fail
    go_ret
    exact ⟨by rw [← HBB.out, mayJB_not (fun h => h2 (HMJ.out.1 h).2.2.1)]; rfl, HQ.out⟩
  rw [decide_eq_true h2] at hS
  by_cases h3 : t4 = sz
  rotate_left
  · have k3 : (t4 == sz) = false := by simpa using h3
    refine wp_region_below (by kernel_rfl) (by kernel_rfl) ?_
    repeat (go_big_quiet_step (exact hS _))
    refine wpQuiet_nil ?_
    rintro _ ⟨q, rfl⟩
    have HQ := Lib.hid (HB.out.trans (q.2.mono HB.out.size))
    clear c0 c1 c2 c3 c4 c5 c6 c7 c8 c9
    generalize q.1 = W8 at *
    go_wp2_with fail
    go_ret
    exact ⟨by rw [← HBB.out, mayJB_not (fun h => h3 (HMJ.out.1 h).2.2.2.1)]; rfl, HQ.out⟩
  subst h3
  have hbt : 0 ≤ t3 ∧ t3 ≤ 16777216 := ⟨h2.2.2.2.2.2.2.1, h2.2.2.2.2.2.2.2.1⟩
  have H2 := Lib.hid h2
  have hC : ∀ q : Qs w1, Calls Tryz.prog 45 #[.agg #[.int .i64 t4, .slice SA st.length sc, .slice WA Q.length wq], .int .i64 old, .int .i64 t3] q.1 fun e w'' => e = .returned (.int .i64 (checkV (PlV.pln ⟨t4, SA, sc, st, WA, wq, Q⟩) old t3)) ∧ ∃ q' : Qs w1, w'' = q'.1 := fun q => q.calls (Check_any ⟨t4, SA, sc, st, WA, wq, Q⟩ old t3 q.1 ((HPP.out.up HB.out).up q.2) (by omega) (by omega) (Nat.le_trans HNT.out (by decide)) HNW.out)
  clear h2
  by_cases h4 : PlanP (PlV.pln ⟨t4, SA, sc, st, WA, wq, Q⟩) old t3
  rotate_left
  · rw [checkV_bad (by omega) h4] at hC
    refine wp_region_below (by kernel_rfl) (by kernel_rfl) ?_
    repeat (go_big_quiet_step (first | exact hS _ | exact hC _))
    refine wpQuiet_nil ?_
    rintro _ ⟨q, rfl⟩
    have HQ := Lib.hid (HB.out.trans (q.2.mono HB.out.size))
    clear c0 c1 c2 c3 c4 c5 c6 c7 c8 c9
    generalize q.1 = W8 at *
    go_wp2_with fail
    go_ret
    exact ⟨by rw [← HBB.out, mayJB_not (fun h => h4 (HMJ.out.1 h).2.2.2.2.1)]; rfl, HQ.out⟩
  rw [checkV_ok (by omega) h4] at hC
  have H4 := Lib.hid h4
  have hT : ∀ q : Qs w1, Calls Tryz.prog 46 #[.slice SA st.length sc] q.1 fun e w'' => e = .returned (.int .i64 (tot st)) ∧ ∃ q' : Qs w1, w'' = q'.1 := fun q => by
    have h := Total_any SA st.length sc q.1 st rfl ((HPP.out.up HB.out).up q.2).st HPP.out.si (Nat.le_trans HNT.out (by decide))
    have hr : nl st = st := right_nl H4.out.2.2.1
    rw [hr] at h
    exact q.calls h
  clear h4
  have HV : Hid (((tl.length : Int) == tot st) = bb) := Lib.hid (by
    rw [← HBB.out]
    by_cases h5 : (tl.length : Int) = tot st
    · rw [mayJB_of (HMJ.out.2 ⟨h0, h1, H2.out, rfl, H4.out, h5⟩)]; simpa using h5
    · rw [mayJB_not (fun h => h5 (HMJ.out.1 h).2.2.2.2.2)]; simpa using h5)
  generalize tot st = T at *
  refine wp_region_below (by kernel_rfl) (by kernel_rfl) ?_
  repeat (go_big_quiet_step (first | exact hS _ | exact hC _ | exact hT _))
  refine wpQuiet_nil ?_
  rintro _ ⟨q, rfl⟩
  have HQ := Lib.hid (HB.out.trans (q.2.mono HB.out.size))
  clear c0 c1 c2 c3 c4 c5 c6 c7 c8 c9
  generalize q.1 = W8 at *
  go_wp2_with fail
  go_ret
  exact ⟨by rw [← HV.out]; first | rfl | simp, HQ.out⟩
end Go.Proofs.YtblibmalommdkaaGreat

/-
  redo.Open: the journal of a body, or a refusal.
-/
namespace Go.Proofs.YtblibmalommdkaaGreat
open Go.RowKit
open Re (Rdr OwnB RdB Bytes num many pPlan leVal Sup outS openS sup0 okS gaveUp)
set_option maxRecDepth 100000 in
set_option maxHeartbeats 8000000 in
theorem Open_any (w : World) (A : Option Addr) (n c : Nat) (l : List Int) (hl : l.length = n) (hr : RdB w w.heap.size A l) (hy : Bytes l) (hn : n ≤ 1073741824) (hc : n ≤ c ∧ c ≤ 9223372036854775807) (hno : A = none ∧ c = 0 ∨ ∃ b off, A = some ⟨b, off, none⟩) (hsm : ∀ q b, pPlan l 68 = some (q, b) → q.stash.length ≤ 100000 ∧ q.waves.length ≤ 1000000) :
    Calls Tryz.prog 7 #[.slice A n c] w fun e w' => ((∃ v : JnV, pJour l = some v.jn ∧ MayJ v.jn ∧ e = .returned (.tuple #[.agg v.cells, .int .i64 0]) ∧ JnOk w' w'.heap.size v) ∨ ((∀ j, pJour l = some j → ¬ MayJ j) ∧ e = .returned (.tuple #[.agg jn0.cells, .int .i64 4]))) ∧ Below w.heap.size w w' := by
  have HL := Lib.hid hl; have HY := Lib.hid hy; have HC := Lib.hid hc; have HSM := Lib.hid hsm
  have HON : Hid (∀ w1 : World, Below w.heap.size w w1 → Calls Tryz.prog 21 #[.slice A n c] w1 fun e w' => (∃ rb A' c', e = .returned (.pointer (some ⟨rb, 0, none⟩)) ∧ Rdr w' rb A' n c' 0 l ∧ c' ≤ 9223372036854775807 ∧ w1.heap.size ≤ rb ∧ ∀ x, A' = some x → w1.heap.size ≤ x.block) ∧ Below w1.heap.size w1 w') := Lib.hid (fun w1 hb => by
    by_cases h0 : n = 0
    · subst h0
      have hlz : l = [] := List.length_eq_zero_iff.1 hl
      subst hlz
      exact Re.On_nil w1 A c hno
    · rcases hno with ⟨rfl, rfl⟩ | ⟨b, off, rfl⟩
      · omega
      · exact Re.On_far w1 b off n c l hl ((hr.below hb (Nat.le_refl _)).more hb.size) (by omega) hn)
  clear hl hr hy hc hno hsm
  have hmf : ∀ (fn : Fn) (first cap : Array Value) (w : World), (Instr.makeFunc fn first cap).run Tryz.prog w = .ok (.func fn first cap) w := fun _ _ _ _ => rfl
  go_enter_defers Tryz.func7, Tryz.ntmps7
  go_wp2_with fail
  have hw0 : Below w.heap.size w ((w.alloc (.cells #[.int .i64 0, .int .i64 0, .int .i64 0, .int .i64 0, .int .i64 0, .int .i64 0, .int .i64 0, .slice none 0 0, .slice none 0 0, .slice none 0 0] 32)).alloc (.cells #[.int .i64 0] 33)) := ((Below.refl _ _).alloc (Nat.le_refl _) _).alloc (by simp) _
  have hs0 : ((w.alloc (.cells #[.int .i64 0, .int .i64 0, .int .i64 0, .int .i64 0, .int .i64 0, .int .i64 0, .int .i64 0, .slice none 0 0, .slice none 0 0, .slice none 0 0] 32)).alloc (.cells #[.int .i64 0] 33)).heap.size = w.heap.size + 2 := by simp
  have hx0 : ((w.alloc (.cells #[.int .i64 0, .int .i64 0, .int .i64 0, .int .i64 0, .int .i64 0, .int .i64 0, .int .i64 0, .slice none 0 0, .slice none 0 0, .slice none 0 0] 32)).alloc (.cells #[.int .i64 0] 33)).heap[w.heap.size]? = some (.cells #[.int .i64 0, .int .i64 0, .int .i64 0, .int .i64 0, .int .i64 0, .int .i64 0, .int .i64 0, .slice none 0 0, .slice none 0 0, .slice none 0 0] 32 (0, 0)) := (heap_alloc_old _ _ (by simp)).trans (heap_alloc_new w _)
  have hx1 : ((w.alloc (.cells #[.int .i64 0, .int .i64 0, .int .i64 0, .int .i64 0, .int .i64 0, .int .i64 0, .int .i64 0, .slice none 0 0, .slice none 0 0, .slice none 0 0] 32)).alloc (.cells #[.int .i64 0] 33)).heap[w.heap.size + 1]? = some (.cells #[.int .i64 0] 33 (0, 0)) := by
    have h := heap_alloc_new (w.alloc (.cells #[.int .i64 0, .int .i64 0, .int .i64 0, .int .i64 0, .int .i64 0, .int .i64 0, .int .i64 0, .slice none 0 0, .slice none 0 0, .slice none 0 0] 32)) (.cells #[.int .i64 0] 33)
    have e : (w.alloc (.cells #[.int .i64 0, .int .i64 0, .int .i64 0, .int .i64 0, .int .i64 0, .int .i64 0, .int .i64 0, .slice none 0 0, .slice none 0 0, .slice none 0 0] 32)).heap.size = w.heap.size + 1 := by simp
    rw [e] at h
    exact h
  generalize (w.alloc (.cells #[.int .i64 0, .int .i64 0, .int .i64 0, .int .i64 0, .int .i64 0, .int .i64 0, .int .i64 0, .slice none 0 0, .slice none 0 0, .slice none 0 0] 32)).alloc (.cells #[.int .i64 0] 33) = w1 at *
  refine (HON.out w1 hw0).mono ?_
  rintro e w2 ⟨⟨rb, A', c', rfl, hrd, hcb, hlt, hfa⟩, hb⟩
  have HR2 := Lib.hid hrd
  rw [hs0] at hfa
  have HFA := Lib.hid hfa
  have hb2 := hw0.trans (hb.mono hw0.size)
  have hy0 := (hb.block w.heap.size (by omega)).trans hx0
  have hy1 := (hb.block (w.heap.size + 1) (by omega)).trans hx1
  have hrs := hrd.lt
  have HB2 := Lib.hid hb2; have HY0 := Lib.hid hy0; have HY1 := Lib.hid hy1
  clear hfa hw0 hx0 hx1 hrd hb hb2 hy0 hy1 HON
  go_upto_region 3 with (fail)
  have hjo : JO w (w2.alloc (.cells #[.pointer (some ⟨rb, 0, none⟩)] 61)) w2.heap.size rb #[.int .i64 0, .int .i64 0, .int .i64 0, .int .i64 0, .int .i64 0, .int .i64 0, .int .i64 0, .slice none 0 0, .slice none 0 0, .slice none 0 0] (.int .i64 0) := by
    have hba : Below w2.heap.size w2 (w2.alloc (.cells #[.pointer (some ⟨rb, 0, none⟩)] 61)) := (Below.refl _ _).alloc (Nat.le_refl _) _
    exact ⟨HB2.out.trans (hba.mono HB2.out.size), (hba.block _ (by omega)).trans HY0.out, (hba.block _ (by omega)).trans HY1.out, heap_alloc_new _ _, by omega, hrs⟩
  have HJ3 := Lib.hid hjo
  have HR3 := Lib.hid (rdr_alloc HR2.out (.cells #[.pointer (some ⟨rb, 0, none⟩)] 61))
  clear hjo HR2 HB2 HY0 HY1
  generalize w2.alloc (.cells #[.pointer (some ⟨rb, 0, none⟩)] 61) = w3 at *
  obtain ⟨gb, hgb⟩ : ∃ gb, gb = w2.heap.size := ⟨_, rfl⟩
  rw [← hgb] at HJ3 ⊢
  clear hgb hrs hlt hs0
  have cb := HJ3.out.box
  by_cases h4 : n < 4
  · go_wp2_with fail
    refine (Re.number_no w3 rb n c' 0 A' l HR3.out hn (by omega) 4 (by omega) (by omega) (by omega)).mono ?_
    rintro e w4 ⟨rfl, hb⟩
    have HJ4 := Lib.hid (HJ3.out.below hb)
    clear hb cb
    unfold gaveUp
    go_wp2_with fail
    exact open_panic HJ4.out (by rfl) (by rfl) fun w5 h5 => ⟨.inr ⟨(fun j hj => by
      have hn0 : num l 4 0 = none := by unfold num; rw [if_neg (by rw [HL.out]; omega)]
      unfold pJour at hj
      rw [hn0] at hj
      cases hj), rfl⟩, h5⟩
  obtain ⟨old, hold⟩ : ∃ o, num l 4 0 = some (o, 4) := ⟨_, by unfold num; rw [if_pos (by rw [HL.out]; omega)]⟩
  have HN0 := Lib.hid hold
  clear hold
  go_wp2_with fail
  refine (Re.number_at w3 rb n c' 0 4 A' l old HR3.out HY.out hn (by omega) 4 (by omega) (by omega) HN0.out).mono ?_
  rintro e w4 ⟨rfl, hrd, hgr⟩
  have HJ4 := Lib.hid (HJ3.out.up hgr)
  have HR4 := Lib.hid hrd
  clear hrd hgr cb HJ3 HR3
  have e0 : w4.cell? ⟨w.heap.size, 0, none⟩ = some (.int .i64 0) := HJ4.out.jc rfl
  have f0 : w4.frozen? ⟨w.heap.size, 0, none⟩ = false := HJ4.out.jf 0
  go_upto_region 4 with (fail)
  clear e0 f0
  have hjb : w.heap.size ≠ rb := by have := HJ4.out.rl; omega
  have HFJ : Hid (∀ x, A' = some x → x.block ≠ w.heap.size) := Lib.hid fun x hx => by have := HFA.out x hx; omega
  have HFE : Hid (∀ x, A' = some x → x.block ≠ w.heap.size + 1) := Lib.hid fun x hx => by have := HFA.out x hx; omega
  have HJ5 : Hid (JO w (w4.setCell ⟨w.heap.size, 0, none⟩ (.int .i64 old)) gb rb #[.int .i64 old, .int .i64 0, .int .i64 0, .int .i64 0, .int .i64 0, .int .i64 0, .int .i64 0, .slice none 0 0, .slice none 0 0, .slice none 0 0] (.int .i64 0)) := Lib.hid (HJ4.out.setJ 0 (.int .i64 old))
  have HR5 := Lib.hid (Re.rdr_far HR4.out ⟨w.heap.size, 0, none⟩ (.int .i64 old) hjb HFJ.out)
  clear HJ4 HR4
  generalize w4.setCell ⟨w.heap.size, 0, none⟩ (.int .i64 old) = w5 at *
  have cb := HJ5.out.box
  by_cases h68 : n < 68
  · go_wp2_with fail
    refine (Re.Take_short w5 rb n c' 4 A' l HR5.out hn (by omega) 64 (by omega) (by omega)).mono ?_
    rintro e w6 ⟨rfl, k, rfl⟩
    have HJ6 := Lib.hid (HJ5.out.below (belowDrewN (Below.refl _ _) k))
    clear cb HJ5 HR5
    generalize w5.drewN k = w6 at *
    have d0 : w6.cell? ⟨w.heap.size + 1, 0, none⟩ = some (.int .i64 0) := HJ6.out.e0
    have d1 : w6.frozen? ⟨w.heap.size + 1, 0, none⟩ = false := HJ6.out.ef
    have e0 : w6.cell? ⟨w.heap.size, 0, none⟩ = some (.int .i64 old) := HJ6.out.jc rfl
    have e1 : w6.cell? ⟨w.heap.size, 1, none⟩ = some (.int .i64 0) := HJ6.out.jc rfl
    have e2 : w6.cell? ⟨w.heap.size, 2, none⟩ = some (.int .i64 0) := HJ6.out.jc rfl
    have e3 : w6.cell? ⟨w.heap.size, 3, none⟩ = some (.int .i64 0) := HJ6.out.jc rfl
    have e4 : w6.cell? ⟨w.heap.size, 4, none⟩ = some (.int .i64 0) := HJ6.out.jc rfl
    have e5 : w6.cell? ⟨w.heap.size, 5, none⟩ = some (.int .i64 0) := HJ6.out.jc rfl
    have e6 : w6.cell? ⟨w.heap.size, 6, none⟩ = some (.int .i64 0) := HJ6.out.jc rfl
    have e7 : w6.cell? ⟨w.heap.size, 7, none⟩ = some (.slice none 0 0) := HJ6.out.jc rfl
    have e8 : w6.cell? ⟨w.heap.size, 8, none⟩ = some (.slice none 0 0) := HJ6.out.jc rfl
    have e9 : w6.cell? ⟨w.heap.size, 9, none⟩ = some (.slice none 0 0) := HJ6.out.jc rfl
    have f0 : w6.frozen? ⟨w.heap.size, 0, none⟩ = false := HJ6.out.jf 0
    have f1 : w6.frozen? ⟨w.heap.size, 1, none⟩ = false := HJ6.out.jf 1
    have f2 : w6.frozen? ⟨w.heap.size, 2, none⟩ = false := HJ6.out.jf 2
    have f3 : w6.frozen? ⟨w.heap.size, 3, none⟩ = false := HJ6.out.jf 3
    have f4 : w6.frozen? ⟨w.heap.size, 4, none⟩ = false := HJ6.out.jf 4
    have f5 : w6.frozen? ⟨w.heap.size, 5, none⟩ = false := HJ6.out.jf 5
    have f6 : w6.frozen? ⟨w.heap.size, 6, none⟩ = false := HJ6.out.jf 6
    have f7 : w6.frozen? ⟨w.heap.size, 7, none⟩ = false := HJ6.out.jf 7
    have f8 : w6.frozen? ⟨w.heap.size, 8, none⟩ = false := HJ6.out.jf 8
    have f9 : w6.frozen? ⟨w.heap.size, 9, none⟩ = false := HJ6.out.jf 9
    go_wp2_with fail
    have hx : JO w _ gb rb #[.int .i64 0, .int .i64 0, .int .i64 0, .int .i64 0, .int .i64 0, .int .i64 0, .int .i64 0, .slice none 0 0, .slice none 0 0, .slice none 0 0] (.int .i64 4) := (JO.all (HJ6.out.setE (.int .i64 3)) (.int .i64 0) (.int .i64 0) (.int .i64 0) (.int .i64 0) (.int .i64 0) (.int .i64 0) (.int .i64 0) (.slice none 0 0) (.slice none 0 0) (.slice none 0 0)).setE (.int .i64 4)
    exact open_ret hx (by rfl) (by rfl) ⟨.inr ⟨(fun j hj => by
        unfold pJour at hj
        rw [HN0.out] at hj
        simp only [Option.bind_some] at hj
        rw [if_neg (by rw [HL.out]; omega)] at hj
        cases hj), rfl⟩, hx.low⟩
  go_wp2_with fail
  refine (Re.Take_any w5 rb n c' 4 A' l HR5.out hn hcb 64 (by omega) (by omega)).mono ?_
  rintro e w6 ⟨⟨g, tc, rfl, hown⟩, hrd, hgr⟩
  have HJ6 := Lib.hid (HJ5.out.up hgr)
  have hrd : Rdr w6 rb A' n c' 68 l := hrd
  have HR6 := Lib.hid hrd
  have hqs := HJ5.out.gs
  have HOW := Lib.hid hown
  clear hrd hgr hown cb HJ5 HR5
  have d0 : w6.cell? ⟨w.heap.size + 1, 0, none⟩ = some (.int .i64 0) := HJ6.out.e0
  have d1 : w6.frozen? ⟨w.heap.size + 1, 0, none⟩ = false := HJ6.out.ef
  go_upto_region 6 with (fail)
  clear d0 d1
  have HJ7 := Lib.hid (HJ6.out.setE (.int .i64 0))
  have HR7 := Lib.hid (Re.rdr_far HR6.out ⟨w.heap.size + 1, 0, none⟩ (.int .i64 0) (by have := HJ6.out.rl; simp only; omega) HFE.out)
  have HO7 : Hid (OwnB (w6.setCell ⟨w.heap.size + 1, 0, none⟩ (.int .i64 0)) w5.heap.size (some ⟨g, 0, none⟩) 64 tc ((l.drop 4).take 64)) := Lib.hid ⟨HOW.out.1, row_hi HOW.out.2 (fun b hb _ _ => heap_setCell_other _ _ _ _ (by have := HJ6.out.rl; have := HJ6.out.rg; simp only; omega))⟩
  clear HJ6 HR6 HOW
  generalize w6.setCell ⟨w.heap.size + 1, 0, none⟩ (.int .i64 0) = w7 at *
  have hcap := HO7.out.cap
  unfold maxLen at hcap
  have hcall := Re.OpenS_any g 0 tc w7 ((l.drop 4).take 64) HO7.out.1 HO7.out.rd (Re.bytes_take (Re.bytes_drop HY.out _) _) hcap.1 (by omega)
  have HPJ : Hid (pJour l = (openS ((l.drop 4).take 64)).bind fun s => (pPlan l 68).map fun p => ⟨old, s, p.1, l.drop p.2⟩) := Lib.hid (by
    unfold pJour
    rw [HN0.out]
    simp only [Option.bind_some]
    rw [if_pos (by rw [HL.out]; omega)])
  clear HO7 hcap hqs
  have d0 : w7.cell? ⟨w.heap.size + 1, 0, none⟩ = some (.int .i64 0) := HJ7.out.e0
  have d1 : w7.frozen? ⟨w.heap.size + 1, 0, none⟩ = false := HJ7.out.ef
  have e0 : w7.cell? ⟨w.heap.size, 0, none⟩ = some (.int .i64 old) := HJ7.out.jc rfl
  have e1 : w7.cell? ⟨w.heap.size, 1, none⟩ = some (.int .i64 0) := HJ7.out.jc rfl
  have e2 : w7.cell? ⟨w.heap.size, 2, none⟩ = some (.int .i64 0) := HJ7.out.jc rfl
  have e3 : w7.cell? ⟨w.heap.size, 3, none⟩ = some (.int .i64 0) := HJ7.out.jc rfl
  have e4 : w7.cell? ⟨w.heap.size, 4, none⟩ = some (.int .i64 0) := HJ7.out.jc rfl
  have e5 : w7.cell? ⟨w.heap.size, 5, none⟩ = some (.int .i64 0) := HJ7.out.jc rfl
  have e6 : w7.cell? ⟨w.heap.size, 6, none⟩ = some (.int .i64 0) := HJ7.out.jc rfl
  have e7 : w7.cell? ⟨w.heap.size, 7, none⟩ = some (.slice none 0 0) := HJ7.out.jc rfl
  have e8 : w7.cell? ⟨w.heap.size, 8, none⟩ = some (.slice none 0 0) := HJ7.out.jc rfl
  have e9 : w7.cell? ⟨w.heap.size, 9, none⟩ = some (.slice none 0 0) := HJ7.out.jc rfl
  have f0 : w7.frozen? ⟨w.heap.size, 0, none⟩ = false := HJ7.out.jf 0
  have f1 : w7.frozen? ⟨w.heap.size, 1, none⟩ = false := HJ7.out.jf 1
  have f2 : w7.frozen? ⟨w.heap.size, 2, none⟩ = false := HJ7.out.jf 2
  have f3 : w7.frozen? ⟨w.heap.size, 3, none⟩ = false := HJ7.out.jf 3
  have f4 : w7.frozen? ⟨w.heap.size, 4, none⟩ = false := HJ7.out.jf 4
  have f5 : w7.frozen? ⟨w.heap.size, 5, none⟩ = false := HJ7.out.jf 5
  have f6 : w7.frozen? ⟨w.heap.size, 6, none⟩ = false := HJ7.out.jf 6
  have f7 : w7.frozen? ⟨w.heap.size, 7, none⟩ = false := HJ7.out.jf 7
  have f8 : w7.frozen? ⟨w.heap.size, 8, none⟩ = false := HJ7.out.jf 8
  have f9 : w7.frozen? ⟨w.heap.size, 9, none⟩ = false := HJ7.out.jf 9
  rcases out_open ((l.drop 4).take 64) with ⟨⟨t0, t1, t2, t3, t4⟩, hos, hout⟩ | ⟨hos, hout⟩
  rotate_left
  · have HOS := Lib.hid hos
    obtain ⟨zz, hz5, hout⟩ : ∃ zz : Int, (zz = 4 ∨ zz = 5) ∧ outS ((l.drop 4).take 64) = (sup0, zz) := by
      rcases hout with h | h
      · exact ⟨4, .inl rfl, h⟩
      · exact ⟨5, .inr rfl, h⟩
    rw [hout] at hcall
    unfold sup0 Re.Sup.cells at hcall
    simp only at hcall
    clear hos hout
    have hzz : (zz != 0) = true := by rcases hz5 with rfl | rfl <;> rfl
    have hzz' : (zz == 0) = false := by rcases hz5 with rfl | rfl <;> rfl
    clear hz5 e0 e1 e2 e3 e4 e5 e6 e7 e8 e9 f0 f1 f2 f3 f4 f5 f6 f7 f8 f9 d0 d1
    go_wp2_with fail
    refine hcall.mono ?_
    rintro e w8 ⟨rfl, hb⟩
    have HJ8 := Lib.hid (HJ7.out.below hb)
    clear hb hcall HJ7 HR7
    have d0 : w8.cell? ⟨w.heap.size + 1, 0, none⟩ = some (.int .i64 0) := HJ8.out.e0
    have d1 : w8.frozen? ⟨w.heap.size + 1, 0, none⟩ = false := HJ8.out.ef
    have e0 : w8.cell? ⟨w.heap.size, 0, none⟩ = some (.int .i64 old) := HJ8.out.jc rfl
    have e1 : w8.cell? ⟨w.heap.size, 1, none⟩ = some (.int .i64 0) := HJ8.out.jc rfl
    have e2 : w8.cell? ⟨w.heap.size, 2, none⟩ = some (.int .i64 0) := HJ8.out.jc rfl
    have e3 : w8.cell? ⟨w.heap.size, 3, none⟩ = some (.int .i64 0) := HJ8.out.jc rfl
    have e4 : w8.cell? ⟨w.heap.size, 4, none⟩ = some (.int .i64 0) := HJ8.out.jc rfl
    have e5 : w8.cell? ⟨w.heap.size, 5, none⟩ = some (.int .i64 0) := HJ8.out.jc rfl
    have e6 : w8.cell? ⟨w.heap.size, 6, none⟩ = some (.int .i64 0) := HJ8.out.jc rfl
    have e7 : w8.cell? ⟨w.heap.size, 7, none⟩ = some (.slice none 0 0) := HJ8.out.jc rfl
    have e8 : w8.cell? ⟨w.heap.size, 8, none⟩ = some (.slice none 0 0) := HJ8.out.jc rfl
    have e9 : w8.cell? ⟨w.heap.size, 9, none⟩ = some (.slice none 0 0) := HJ8.out.jc rfl
    have f0 : w8.frozen? ⟨w.heap.size, 0, none⟩ = false := HJ8.out.jf 0
    have f1 : w8.frozen? ⟨w.heap.size, 1, none⟩ = false := HJ8.out.jf 1
    have f2 : w8.frozen? ⟨w.heap.size, 2, none⟩ = false := HJ8.out.jf 2
    have f3 : w8.frozen? ⟨w.heap.size, 3, none⟩ = false := HJ8.out.jf 3
    have f4 : w8.frozen? ⟨w.heap.size, 4, none⟩ = false := HJ8.out.jf 4
    have f5 : w8.frozen? ⟨w.heap.size, 5, none⟩ = false := HJ8.out.jf 5
    have f6 : w8.frozen? ⟨w.heap.size, 6, none⟩ = false := HJ8.out.jf 6
    have f7 : w8.frozen? ⟨w.heap.size, 7, none⟩ = false := HJ8.out.jf 7
    have f8 : w8.frozen? ⟨w.heap.size, 8, none⟩ = false := HJ8.out.jf 8
    have f9 : w8.frozen? ⟨w.heap.size, 9, none⟩ = false := HJ8.out.jf 9
    go_wp2_with fail
    have hx : JO w _ gb rb #[.int .i64 0, .int .i64 0, .int .i64 0, .int .i64 0, .int .i64 0, .int .i64 0, .int .i64 0, .slice none 0 0, .slice none 0 0, .slice none 0 0] (.int .i64 4) := (JO.all ((JO.sup HJ8.out (.int .i64 0) (.int .i64 0) (.int .i64 0) (.int .i64 0) (.int .i64 0)).setE (.int .i64 zz)) (.int .i64 0) (.int .i64 0) (.int .i64 0) (.int .i64 0) (.int .i64 0) (.int .i64 0) (.int .i64 0) (.slice none 0 0) (.slice none 0 0) (.slice none 0 0)).setE (.int .i64 4)
    exact open_ret hx (by rfl) (by rfl) ⟨.inr ⟨(fun j hj => by
        rw [HPJ.out, HOS.out] at hj
        cases hj), rfl⟩, hx.low⟩
  have HOS := Lib.hid hos
  rw [hout] at hcall
  unfold Re.Sup.cells at hcall
  simp only at hcall
  clear hos hout
  go_wp2_with fail
  refine hcall.mono ?_
  rintro e w8 ⟨rfl, hb⟩
  have HJ8 := Lib.hid (HJ7.out.below hb)
  have HR8 := Lib.hid (HR7.out.grown hb)
  clear hb hcall HJ7 HR7 e0 e1 e2 e3 e4 e5 e6 e7 e8 e9 f0 f1 f2 f3 f4 f5 f6 f7 f8 f9 d0 d1
  have d0 : w8.cell? ⟨w.heap.size + 1, 0, none⟩ = some (.int .i64 0) := HJ8.out.e0
  have d1 : w8.frozen? ⟨w.heap.size + 1, 0, none⟩ = false := HJ8.out.ef
  have e0 : w8.cell? ⟨w.heap.size, 0, none⟩ = some (.int .i64 old) := HJ8.out.jc rfl
  have e1 : w8.cell? ⟨w.heap.size, 1, none⟩ = some (.int .i64 0) := HJ8.out.jc rfl
  have e2 : w8.cell? ⟨w.heap.size, 2, none⟩ = some (.int .i64 0) := HJ8.out.jc rfl
  have e3 : w8.cell? ⟨w.heap.size, 3, none⟩ = some (.int .i64 0) := HJ8.out.jc rfl
  have e4 : w8.cell? ⟨w.heap.size, 4, none⟩ = some (.int .i64 0) := HJ8.out.jc rfl
  have e5 : w8.cell? ⟨w.heap.size, 5, none⟩ = some (.int .i64 0) := HJ8.out.jc rfl
  have e6 : w8.cell? ⟨w.heap.size, 6, none⟩ = some (.int .i64 0) := HJ8.out.jc rfl
  have e7 : w8.cell? ⟨w.heap.size, 7, none⟩ = some (.slice none 0 0) := HJ8.out.jc rfl
  have e8 : w8.cell? ⟨w.heap.size, 8, none⟩ = some (.slice none 0 0) := HJ8.out.jc rfl
  have e9 : w8.cell? ⟨w.heap.size, 9, none⟩ = some (.slice none 0 0) := HJ8.out.jc rfl
  have f0 : w8.frozen? ⟨w.heap.size, 0, none⟩ = false := HJ8.out.jf 0
  have f1 : w8.frozen? ⟨w.heap.size, 1, none⟩ = false := HJ8.out.jf 1
  have f2 : w8.frozen? ⟨w.heap.size, 2, none⟩ = false := HJ8.out.jf 2
  have f3 : w8.frozen? ⟨w.heap.size, 3, none⟩ = false := HJ8.out.jf 3
  have f4 : w8.frozen? ⟨w.heap.size, 4, none⟩ = false := HJ8.out.jf 4
  have f5 : w8.frozen? ⟨w.heap.size, 5, none⟩ = false := HJ8.out.jf 5
  have f6 : w8.frozen? ⟨w.heap.size, 6, none⟩ = false := HJ8.out.jf 6
  have f7 : w8.frozen? ⟨w.heap.size, 7, none⟩ = false := HJ8.out.jf 7
  have f8 : w8.frozen? ⟨w.heap.size, 8, none⟩ = false := HJ8.out.jf 8
  have f9 : w8.frozen? ⟨w.heap.size, 9, none⟩ = false := HJ8.out.jf 9
  go_upto_region 9 with (fail)
  clear e0 e1 e2 e3 e4 e5 e6 e7 e8 e9 f0 f1 f2 f3 f4 f5 f6 f7 f8 f9 d0 d1
  have HJ9 : Hid (JO w ((((((w8.setCell ⟨w.heap.size, 1, none⟩ (.int .i64 t0)).setCell ⟨w.heap.size, 2, none⟩ (.int .i64 t1)).setCell ⟨w.heap.size, 3, none⟩ (.int .i64 t2)).setCell ⟨w.heap.size, 4, none⟩ (.int .i64 t3)).setCell ⟨w.heap.size, 5, none⟩ (.int .i64 t4)).setCell ⟨w.heap.size + 1, 0, none⟩ (.int .i64 0)) gb rb #[.int .i64 old, .int .i64 t0, .int .i64 t1, .int .i64 t2, .int .i64 t3, .int .i64 t4, .int .i64 0, .slice none 0 0, .slice none 0 0, .slice none 0 0] (.int .i64 0)) := Lib.hid ((JO.sup HJ8.out (.int .i64 t0) (.int .i64 t1) (.int .i64 t2) (.int .i64 t3) (.int .i64 t4)).setE (.int .i64 0))
  have HR9 := Lib.hid (Re.rdr_far (Re.rdr_far (Re.rdr_far (Re.rdr_far (Re.rdr_far (Re.rdr_far HR8.out ⟨w.heap.size, 1, none⟩ (.int .i64 t0) hjb HFJ.out) ⟨w.heap.size, 2, none⟩ (.int .i64 t1) hjb HFJ.out) ⟨w.heap.size, 3, none⟩ (.int .i64 t2) hjb HFJ.out) ⟨w.heap.size, 4, none⟩ (.int .i64 t3) hjb HFJ.out) ⟨w.heap.size, 5, none⟩ (.int .i64 t4) hjb HFJ.out) ⟨w.heap.size + 1, 0, none⟩ (.int .i64 0) (by have := HJ8.out.rl; simp only; omega) HFE.out)
  clear HJ8 HR8
  generalize ((((((w8.setCell ⟨w.heap.size, 1, none⟩ (.int .i64 t0)).setCell ⟨w.heap.size, 2, none⟩ (.int .i64 t1)).setCell ⟨w.heap.size, 3, none⟩ (.int .i64 t2)).setCell ⟨w.heap.size, 4, none⟩ (.int .i64 t3)).setCell ⟨w.heap.size, 5, none⟩ (.int .i64 t4)).setCell ⟨w.heap.size + 1, 0, none⟩ (.int .i64 0)) = w9 at *
  have cb := HJ9.out.box
  have hpl := plan_any w9 rb n c' 68 A' l HR9.out HY.out hn hcb (by omega)
  go_wp2_with fail
  refine hpl.mono ?_
  rintro e w10 ⟨h, hgr⟩
  rcases h with ⟨⟨sz, SA, sc, st, WA, wq, Q⟩, q, b, hpp, rfl, hpq, hown, hrd⟩ | ⟨hpp, rfl⟩
  rotate_left
  · have HJ10 := Lib.hid (HJ9.out.up hgr)
    have HPP := Lib.hid hpp
    clear hgr hpl cb hpp
    unfold gaveUp
    go_wp2_with fail
    exact open_panic HJ10.out (by rfl) (by rfl) fun w5 h5 => ⟨.inr ⟨(fun j hj => by
      rw [HPJ.out, HOS.out, HPP.out] at hj
      cases hj), rfl⟩, h5⟩
  have HS10 := Lib.hid hgr.size
  have HJ10 := Lib.hid (HJ9.out.up hgr)
  have HR10 := Lib.hid hrd
  have HO10 := Lib.hid hown
  have HPP := Lib.hid hpp
  have HPQ := Lib.hid hpq
  have hbn : b ≤ n := by have := plan_bd HY.out (by rw [HL.out]; omega) hpp; rw [HL.out] at this; exact this.2.2.2.2.2
  have hg9 := HJ9.out.gs
  clear hgr hpl cb hpp hpq hown hrd HR9 HJ9
  unfold PlV.cells
  simp only
  have e0 : w10.cell? ⟨w.heap.size, 0, none⟩ = some (.int .i64 old) := HJ10.out.jc rfl
  have e1 : w10.cell? ⟨w.heap.size, 1, none⟩ = some (.int .i64 t0) := HJ10.out.jc rfl
  have e2 : w10.cell? ⟨w.heap.size, 2, none⟩ = some (.int .i64 t1) := HJ10.out.jc rfl
  have e3 : w10.cell? ⟨w.heap.size, 3, none⟩ = some (.int .i64 t2) := HJ10.out.jc rfl
  have e4 : w10.cell? ⟨w.heap.size, 4, none⟩ = some (.int .i64 t3) := HJ10.out.jc rfl
  have e5 : w10.cell? ⟨w.heap.size, 5, none⟩ = some (.int .i64 t4) := HJ10.out.jc rfl
  have e6 : w10.cell? ⟨w.heap.size, 6, none⟩ = some (.int .i64 0) := HJ10.out.jc rfl
  have e7 : w10.cell? ⟨w.heap.size, 7, none⟩ = some (.slice none 0 0) := HJ10.out.jc rfl
  have e8 : w10.cell? ⟨w.heap.size, 8, none⟩ = some (.slice none 0 0) := HJ10.out.jc rfl
  have e9 : w10.cell? ⟨w.heap.size, 9, none⟩ = some (.slice none 0 0) := HJ10.out.jc rfl
  have f0 : w10.frozen? ⟨w.heap.size, 0, none⟩ = false := HJ10.out.jf 0
  have f1 : w10.frozen? ⟨w.heap.size, 1, none⟩ = false := HJ10.out.jf 1
  have f2 : w10.frozen? ⟨w.heap.size, 2, none⟩ = false := HJ10.out.jf 2
  have f3 : w10.frozen? ⟨w.heap.size, 3, none⟩ = false := HJ10.out.jf 3
  have f4 : w10.frozen? ⟨w.heap.size, 4, none⟩ = false := HJ10.out.jf 4
  have f5 : w10.frozen? ⟨w.heap.size, 5, none⟩ = false := HJ10.out.jf 5
  have f6 : w10.frozen? ⟨w.heap.size, 6, none⟩ = false := HJ10.out.jf 6
  have f7 : w10.frozen? ⟨w.heap.size, 7, none⟩ = false := HJ10.out.jf 7
  have f8 : w10.frozen? ⟨w.heap.size, 8, none⟩ = false := HJ10.out.jf 8
  have f9 : w10.frozen? ⟨w.heap.size, 9, none⟩ = false := HJ10.out.jf 9
  go_upto_region 10 with (fail)
  clear e0 e1 e2 e3 e4 e5 e6 e7 e8 e9 f0 f1 f2 f3 f4 f5 f6 f7 f8 f9
  have HJ11 : Hid (JO w (((w10.setCell ⟨w.heap.size, 6, none⟩ (.int .i64 sz)).setCell ⟨w.heap.size, 7, none⟩ (.slice SA st.length sc)).setCell ⟨w.heap.size, 8, none⟩ (.slice WA Q.length wq)) gb rb #[.int .i64 old, .int .i64 t0, .int .i64 t1, .int .i64 t2, .int .i64 t3, .int .i64 t4, .int .i64 sz, .slice SA st.length sc, .slice WA Q.length wq, .slice none 0 0] (.int .i64 0)) := Lib.hid (JO.pln HJ10.out (.int .i64 sz) (.slice SA st.length sc) (.slice WA Q.length wq))
  have HR11 := Lib.hid (Re.rdr_far (Re.rdr_far (Re.rdr_far HR10.out ⟨w.heap.size, 6, none⟩ (.int .i64 sz) hjb HFJ.out) ⟨w.heap.size, 7, none⟩ (.slice SA st.length sc) hjb HFJ.out) ⟨w.heap.size, 8, none⟩ (.slice WA Q.length wq) hjb HFJ.out)
  have HO11 : Hid (OwnP (((w10.setCell ⟨w.heap.size, 6, none⟩ (.int .i64 sz)).setCell ⟨w.heap.size, 7, none⟩ (.slice SA st.length sc)).setCell ⟨w.heap.size, 8, none⟩ (.slice WA Q.length wq)) w9.heap.size ⟨sz, SA, sc, st, WA, wq, Q⟩) := Lib.hid (HO10.out.box fun x hx _ => by have := HJ10.out.rl; have := HJ10.out.rg; rw [heap_setCell_other _ _ _ _ (by simp only; omega), heap_setCell_other _ _ _ _ (by simp only; omega), heap_setCell_other _ _ _ _ (by simp only; omega)])
  have hs10 : w9.heap.size ≤ w10.heap.size := HS10.out
  have HG911 : Hid (w9.heap.size ≤ (((w10.setCell ⟨w.heap.size, 6, none⟩ (.int .i64 sz)).setCell ⟨w.heap.size, 7, none⟩ (.slice SA st.length sc)).setCell ⟨w.heap.size, 8, none⟩ (.slice WA Q.length wq)).heap.size) := Lib.hid (by simpa using hs10)
  clear HJ10 HR10 HO10 hs10
  generalize (((w10.setCell ⟨w.heap.size, 6, none⟩ (.int .i64 sz)).setCell ⟨w.heap.size, 7, none⟩ (.slice SA st.length sc)).setCell ⟨w.heap.size, 8, none⟩ (.slice WA Q.length wq)) = w11 at *
  have hL := Re.Left_rest w11.drew rb n c' b A' l (HR11.out.drewN 1) hn hbn
  have hT := fun k => Re.Take_rest (w11.drewN k) rb n c' b A' l (HR11.out.drewN k) hn hcb hbn (by omega)
  have HJd : ∀ k, JO w (w11.drewN k) gb rb #[.int .i64 old, .int .i64 t0, .int .i64 t1, .int .i64 t2, .int .i64 t3, .int .i64 t4, .int .i64 sz, .slice SA st.length sc, .slice WA Q.length wq, .slice none 0 0] (.int .i64 0) := fun k => HJ11.out.below (belowDrewN (Below.refl _ _) k)
  have HOd : ∀ k, OwnP (w11.drewN k) w9.heap.size ⟨sz, SA, sc, st, WA, wq, Q⟩ := fun k => HO11.out.box fun _ _ _ => rfl
  have hB0 : w11.cell? ⟨gb, 0, none⟩ = some (.pointer (some ⟨rb, 0, none⟩)) := HJ11.out.box
  have hBd := fun k => (HJd k).box
  have hX : ∀ k x, (w11.drewN k).grownBy x (some rb) → x.cell? ⟨w.heap.size, 9, none⟩ = some (.slice none 0 0) ∧ x.frozen? ⟨w.heap.size, 9, none⟩ = false := fun k x hx => ⟨((HJd k).up hx).jc rfl, ((HJd k).up hx).jf 9⟩
  have HJD := Lib.hid HJd; have HOD := Lib.hid HOd
  clear HJd HOd
  go_cut [33] from 33 to 42 (fun _ wx => ∃ (TA : Option Addr) (tc : Nat), Hid (JO w wx gb rb #[.int .i64 old, .int .i64 t0, .int .i64 t1, .int .i64 t2, .int .i64 t3, .int .i64 t4, .int .i64 sz, .slice SA st.length sc, .slice WA Q.length wq, .slice TA (n - b) tc] (.int .i64 0) ∧ OwnP wx w9.heap.size ⟨sz, SA, sc, st, WA, wq, Q⟩ ∧ OwnB wx w11.heap.size TA (n - b) tc (l.drop b)))
  case first =>
    refine wp_onlyN ?_
    go_region_law (first | (go_simp; go_at_call 26; refine hL.mono ?_; rintro e w12 ⟨rfl, k, rfl⟩; have hBk := hBd (1 + k)) | (go_simp; go_at_call 23; refine (hT _).mono ?_; rintro e w13 ⟨⟨TA, tc, rfl, hown⟩, hg⟩; obtain ⟨j9, z9⟩ := hX _ _ hg))
    all_goals
      simp only [onlyN]
      go_wp2_with fail
      go_meet
      have hj := (((HJD.out (1 + k)).up hg).setJ 9 (.slice TA (n - b) tc))
      have hgb := ((HJD.out (1 + k)).up hg).rg
      have hgr := ((HJD.out (1 + k)).up hg).rl
      have hg11 := HJ11.out.gs
      exact ⟨TA, tc, Lib.hid ⟨hj, (((HOD.out (1 + k)).box fun x hx hlt => hg.block x hlt (fun h => by injection h with h; omega))).box fun x hx _ => heap_setCell_other _ _ _ _ (by simp only; omega), ⟨hown.1, row_hi hown.2 (fun x hx _ _ => heap_setCell_other _ _ _ _ (by have h0 : w11.heap.size ≤ x := hx; simp only; omega))⟩⟩⟩
  case rest =>
    obtain ⟨TA, tc, HI⟩ := hcut
    have HJ12 := Lib.hid HI.out.1
    have HO12 := Lib.hid HI.out.2.1
    have HT12 := Lib.hid HI.out.2.2
    have HS12 : Hid (w9.heap.size ≤ w11.heap.size) := Lib.hid (by have := HO11.out; have := HG911.out; omega)
    have HLD : Hid ((l.drop b).length = n - b) := Lib.hid (by rw [List.length_drop, HL.out])
    clear HI HJ11 HO11 HR11 hL hT hB0 hBd hX HJD HOD
  
    have hcapT := HT12.out.cap
    unfold maxLen at hcapT
    have hobd := Re.num_bd HY.out HN0.out (by omega)
    have hok : JnOk wc wc.heap.size ⟨old, ⟨t0, t1, t2, t3, t4⟩, ⟨sz, SA, sc, st, WA, wq, Q⟩, TA, tc, l.drop b⟩ :=
      ⟨HO12.out.read HY.out (by rw [HL.out]; omega) HPP.out HPQ.out, HT12.out.rd, by simp only [HLD.out]; omega, (fun h => by simp only [HLD.out]; exact HT12.out.none h), by unfold I64; simp only; omega⟩
    have hsm := HSM.out _ _ HPP.out
    have hpq := HPQ.out
    have hcall := MayJ_any _ wc hok (by simp only; have := congrArg Pln.stash hpq; simp only [PlV.pln] at this; rw [this]; exact hsm.1) (by simp only; have := congrArg (fun x => x.waves.length) hpq; simp only [PlV.pln, List.length_map] at this; rw [this]; exact hsm.2)
    unfold JnV.cells at hcall
    simp only [HLD.out] at hcall
    have HPE : Hid (pJour l = some (JnV.jn ⟨old, ⟨t0, t1, t2, t3, t4⟩, ⟨sz, SA, sc, st, WA, wq, Q⟩, TA, tc, l.drop b⟩)) := Lib.hid (by rw [HPJ.out, HOS.out, HPP.out, ← HPQ.out]; rfl)
    have HOLD : Hid (I64 old) := Lib.hid (by unfold I64; omega)
    clear hok hobd hcapT hsm hpq
    obtain ⟨mb, hmb⟩ : ∃ mb, mayJB (JnV.jn ⟨old, ⟨t0, t1, t2, t3, t4⟩, ⟨sz, SA, sc, st, WA, wq, Q⟩, TA, tc, l.drop b⟩) = mb := ⟨_, rfl⟩
    rw [hmb] at hcall
    have HMB := Lib.hid hmb
    clear hmb
    have e0 : wc.cell? ⟨w.heap.size, 0, none⟩ = some (.int .i64 old) := HJ12.out.jc rfl
    have e1 : wc.cell? ⟨w.heap.size, 1, none⟩ = some (.int .i64 t0) := HJ12.out.jc rfl
    have e2 : wc.cell? ⟨w.heap.size, 2, none⟩ = some (.int .i64 t1) := HJ12.out.jc rfl
    have e3 : wc.cell? ⟨w.heap.size, 3, none⟩ = some (.int .i64 t2) := HJ12.out.jc rfl
    have e4 : wc.cell? ⟨w.heap.size, 4, none⟩ = some (.int .i64 t3) := HJ12.out.jc rfl
    have e5 : wc.cell? ⟨w.heap.size, 5, none⟩ = some (.int .i64 t4) := HJ12.out.jc rfl
    have e6 : wc.cell? ⟨w.heap.size, 6, none⟩ = some (.int .i64 sz) := HJ12.out.jc rfl
    have e7 : wc.cell? ⟨w.heap.size, 7, none⟩ = some (.slice SA st.length sc) := HJ12.out.jc rfl
    have e8 : wc.cell? ⟨w.heap.size, 8, none⟩ = some (.slice WA Q.length wq) := HJ12.out.jc rfl
    have e9 : wc.cell? ⟨w.heap.size, 9, none⟩ = some (.slice TA (n - b) tc) := HJ12.out.jc rfl
    go_wp2_with fail
    refine hcall.mono ?_
    rintro e w14 ⟨rfl, hb⟩
    have HJ14 := Lib.hid (HJ12.out.below hb)
    have HHB := Lib.hid hb
    clear hb hcall e0 e1 e2 e3 e4 e5 e6 e7 e8 e9
    have d0 : w14.cell? ⟨w.heap.size + 1, 0, none⟩ = some (.int .i64 0) := HJ14.out.e0
    have d1 : w14.frozen? ⟨w.heap.size + 1, 0, none⟩ = false := HJ14.out.ef
    have e0 : w14.cell? ⟨w.heap.size, 0, none⟩ = some (.int .i64 old) := HJ14.out.jc rfl
    have e1 : w14.cell? ⟨w.heap.size, 1, none⟩ = some (.int .i64 t0) := HJ14.out.jc rfl
    have e2 : w14.cell? ⟨w.heap.size, 2, none⟩ = some (.int .i64 t1) := HJ14.out.jc rfl
    have e3 : w14.cell? ⟨w.heap.size, 3, none⟩ = some (.int .i64 t2) := HJ14.out.jc rfl
    have e4 : w14.cell? ⟨w.heap.size, 4, none⟩ = some (.int .i64 t3) := HJ14.out.jc rfl
    have e5 : w14.cell? ⟨w.heap.size, 5, none⟩ = some (.int .i64 t4) := HJ14.out.jc rfl
    have e6 : w14.cell? ⟨w.heap.size, 6, none⟩ = some (.int .i64 sz) := HJ14.out.jc rfl
    have e7 : w14.cell? ⟨w.heap.size, 7, none⟩ = some (.slice SA st.length sc) := HJ14.out.jc rfl
    have e8 : w14.cell? ⟨w.heap.size, 8, none⟩ = some (.slice WA Q.length wq) := HJ14.out.jc rfl
    have e9 : w14.cell? ⟨w.heap.size, 9, none⟩ = some (.slice TA (n - b) tc) := HJ14.out.jc rfl
    have f0 : w14.frozen? ⟨w.heap.size, 0, none⟩ = false := HJ14.out.jf 0
    have f1 : w14.frozen? ⟨w.heap.size, 1, none⟩ = false := HJ14.out.jf 1
    have f2 : w14.frozen? ⟨w.heap.size, 2, none⟩ = false := HJ14.out.jf 2
    have f3 : w14.frozen? ⟨w.heap.size, 3, none⟩ = false := HJ14.out.jf 3
    have f4 : w14.frozen? ⟨w.heap.size, 4, none⟩ = false := HJ14.out.jf 4
    have f5 : w14.frozen? ⟨w.heap.size, 5, none⟩ = false := HJ14.out.jf 5
    have f6 : w14.frozen? ⟨w.heap.size, 6, none⟩ = false := HJ14.out.jf 6
    have f7 : w14.frozen? ⟨w.heap.size, 7, none⟩ = false := HJ14.out.jf 7
    have f8 : w14.frozen? ⟨w.heap.size, 8, none⟩ = false := HJ14.out.jf 8
    have f9 : w14.frozen? ⟨w.heap.size, 9, none⟩ = false := HJ14.out.jf 9
    cases mb with
    | false =>
      go_wp2_with fail
      have hx : JO w _ gb rb #[.int .i64 0, .int .i64 0, .int .i64 0, .int .i64 0, .int .i64 0, .int .i64 0, .int .i64 0, .slice none 0 0, .slice none 0 0, .slice none 0 0] (.int .i64 4) := (JO.all HJ14.out (.int .i64 0) (.int .i64 0) (.int .i64 0) (.int .i64 0) (.int .i64 0) (.int .i64 0) (.int .i64 0) (.slice none 0 0) (.slice none 0 0) (.slice none 0 0)).setE (.int .i64 4)
      exact open_ret hx (by rfl) (by rfl) ⟨.inr ⟨(fun j hj hm => by
          rw [HPE.out] at hj
          injection hj with hj
          subst hj
          rw [mayJB_of hm] at HMB
          exact absurd HMB.out (by simp)), rfl⟩, hx.low⟩
    | true =>
      go_wp2_with fail
      have hx : JO w _ gb rb #[.int .i64 old, .int .i64 t0, .int .i64 t1, .int .i64 t2, .int .i64 t3, .int .i64 t4, .int .i64 sz, .slice SA st.length sc, .slice WA Q.length wq, .slice TA (n - b) tc] (.int .i64 0) := (JO.all HJ14.out (.int .i64 old) (.int .i64 t0) (.int .i64 t1) (.int .i64 t2) (.int .i64 t3) (.int .i64 t4) (.int .i64 sz) (.slice SA st.length sc) (.slice WA Q.length wq) (.slice TA (n - b) tc)).setE (.int .i64 0)
      have hsame : ∀ x, w9.heap.size ≤ x → (((((((((((w14.setCell ⟨w.heap.size, 0, none⟩ (.int .i64 old)).setCell ⟨w.heap.size, 1, none⟩ (.int .i64 t0)).setCell ⟨w.heap.size, 2, none⟩ (.int .i64 t1)).setCell ⟨w.heap.size, 3, none⟩ (.int .i64 t2)).setCell ⟨w.heap.size, 4, none⟩ (.int .i64 t3)).setCell ⟨w.heap.size, 5, none⟩ (.int .i64 t4)).setCell ⟨w.heap.size, 6, none⟩ (.int .i64 sz)).setCell ⟨w.heap.size, 7, none⟩ (.slice SA st.length sc)).setCell ⟨w.heap.size, 8, none⟩ (.slice WA Q.length wq)).setCell ⟨w.heap.size, 9, none⟩ (.slice TA (n - b) tc)).setCell ⟨w.heap.size + 1, 0, none⟩ (.int .i64 0)).heap[x]? = w14.heap[x]? := fun x hx => by
        have h1 : x ≠ w.heap.size := by have := HJ14.out.rl; have := HJ14.out.rg; omega
        have h2 : x ≠ w.heap.size + 1 := by have := HJ14.out.rl; have := HJ14.out.rg; omega
        rw [heap_setCell_other _ _ _ _ h2, heap_setCell_other _ _ _ _ h1, heap_setCell_other _ _ _ _ h1, heap_setCell_other _ _ _ _ h1, heap_setCell_other _ _ _ _ h1, heap_setCell_other _ _ _ _ h1, heap_setCell_other _ _ _ _ h1, heap_setCell_other _ _ _ _ h1, heap_setCell_other _ _ _ _ h1, heap_setCell_other _ _ _ _ h1, heap_setCell_other _ _ _ _ h1]
      generalize (((((((((((w14.setCell ⟨w.heap.size, 0, none⟩ (.int .i64 old)).setCell ⟨w.heap.size, 1, none⟩ (.int .i64 t0)).setCell ⟨w.heap.size, 2, none⟩ (.int .i64 t1)).setCell ⟨w.heap.size, 3, none⟩ (.int .i64 t2)).setCell ⟨w.heap.size, 4, none⟩ (.int .i64 t3)).setCell ⟨w.heap.size, 5, none⟩ (.int .i64 t4)).setCell ⟨w.heap.size, 6, none⟩ (.int .i64 sz)).setCell ⟨w.heap.size, 7, none⟩ (.slice SA st.length sc)).setCell ⟨w.heap.size, 8, none⟩ (.slice WA Q.length wq)).setCell ⟨w.heap.size, 9, none⟩ (.slice TA (n - b) tc)).setCell ⟨w.heap.size + 1, 0, none⟩ (.int .i64 0)) = wf at *
      have hne : ∀ x, w9.heap.size ≤ x → x < wc.heap.size → wf.heap[x]? = wc.heap[x]? := fun x hx hlt => (hsame x hx).trans (HHB.out.block x hlt)
      have hop : OwnP wf w9.heap.size ⟨sz, SA, sc, st, WA, wq, Q⟩ := HO12.out.box hne
      have how : OwnB wf w11.heap.size TA (n - b) tc (l.drop b) := ⟨HT12.out.1, row_hi HT12.out.2 (fun x hx hlt _ => hne x (Nat.le_trans HS12.out hx) hlt)⟩
      have hcapT := how.cap
      unfold maxLen at hcapT
      have hok : JnOk wf wf.heap.size ⟨old, ⟨t0, t1, t2, t3, t4⟩, ⟨sz, SA, sc, st, WA, wq, Q⟩, TA, tc, l.drop b⟩ :=
        ⟨hop.read HY.out (by rw [HL.out]; omega) HPP.out HPQ.out, how.rd, by simp only [HLD.out]; omega, (fun h => by simp only [HLD.out]; exact how.none h), HOLD.out⟩
      exact open_ret hx (by rfl) (by rfl) ⟨.inl ⟨_, HPE.out, mayJB_is.1 HMB.out, by unfold JnV.cells; simp only [HLD.out], hok⟩, hx.low⟩
end Go.Proofs.YtblibmalommdkaaGreat

/-
  The reference's Same: two journals alike.
-/
namespace Go.Proofs.YtblibmalommdkaaGreat
open Go.RowKit
open Re (Sup RdB)
theorem JnOk.up {w w' : World} {v : JnV} (h : JnOk w w.heap.size v) (hb : Below w.heap.size w w') : JnOk w' w'.heap.size v :=
  ⟨h.p.up hb, (h.st.below hb (Nat.le_refl _)).more hb.size, h.cap, h.no, h.o⟩
set_option maxRecDepth 100000 in
set_option maxHeartbeats 8000000 in
/-- Two journals that are the same one. -/
theorem SameJ_true (v u : JnV) (w : World) (hP : JnOk w w.heap.size v) (hQ : JnOk w w.heap.size u) (h : v.jn = u.jn) :
    Calls Tryz.prog 9 #[.agg v.cells, .agg u.cells] w fun e w' => e = .returned (.bool true) ∧ Below w.heap.size w w' := by
  obtain ⟨old, ⟨t0, t1, t2, t3, t4⟩, p, TA, tc, tl⟩ := v
  obtain ⟨old2, s2, p2, TA2, tc2, tl2⟩ := u
  simp only [JnV.jn, Jn.mk.injEq] at h
  obtain ⟨rfl, rfl, hpp, rfl⟩ := h
  obtain ⟨sz, SA, sc, st, WA, wq, Q⟩ := p
  obtain ⟨sz2, SA2, sc2, st2, WA2, wq2, Q2⟩ := p2
  unfold JnV.cells
  simp only at *
  have hb1 : Below w.heap.size w ((w.alloc (.cells #[.int .i64 old, .int .i64 t0, .int .i64 t1, .int .i64 t2, .int .i64 t3, .int .i64 t4, .int .i64 sz, .slice SA st.length sc, .slice WA Q.length wq, .slice TA tl.length tc] 32)).alloc (.cells #[.int .i64 old, .int .i64 t0, .int .i64 t1, .int .i64 t2, .int .i64 t3, .int .i64 t4, .int .i64 sz2, .slice SA2 st2.length sc2, .slice WA2 Q2.length wq2, .slice TA2 tl.length tc2] 32)) := ((Below.refl _ _).alloc (Nat.le_refl _) _).alloc (by simp) _
  have x0 : ((w.alloc (.cells #[.int .i64 old, .int .i64 t0, .int .i64 t1, .int .i64 t2, .int .i64 t3, .int .i64 t4, .int .i64 sz, .slice SA st.length sc, .slice WA Q.length wq, .slice TA tl.length tc] 32)).alloc (.cells #[.int .i64 old, .int .i64 t0, .int .i64 t1, .int .i64 t2, .int .i64 t3, .int .i64 t4, .int .i64 sz2, .slice SA2 st2.length sc2, .slice WA2 Q2.length wq2, .slice TA2 tl.length tc2] 32)).heap[w.heap.size]? = some (.cells #[.int .i64 old, .int .i64 t0, .int .i64 t1, .int .i64 t2, .int .i64 t3, .int .i64 t4, .int .i64 sz, .slice SA st.length sc, .slice WA Q.length wq, .slice TA tl.length tc] 32 (0, 0)) := (heap_alloc_old _ _ (by simp)).trans (heap_alloc_new w _)
  have x1 : ((w.alloc (.cells #[.int .i64 old, .int .i64 t0, .int .i64 t1, .int .i64 t2, .int .i64 t3, .int .i64 t4, .int .i64 sz, .slice SA st.length sc, .slice WA Q.length wq, .slice TA tl.length tc] 32)).alloc (.cells #[.int .i64 old, .int .i64 t0, .int .i64 t1, .int .i64 t2, .int .i64 t3, .int .i64 t4, .int .i64 sz2, .slice SA2 st2.length sc2, .slice WA2 Q2.length wq2, .slice TA2 tl.length tc2] 32)).heap[w.heap.size + 1]? = some (.cells #[.int .i64 old, .int .i64 t0, .int .i64 t1, .int .i64 t2, .int .i64 t3, .int .i64 t4, .int .i64 sz2, .slice SA2 st2.length sc2, .slice WA2 Q2.length wq2, .slice TA2 tl.length tc2] 32 (0, 0)) := by
    have h := heap_alloc_new (w.alloc (.cells #[.int .i64 old, .int .i64 t0, .int .i64 t1, .int .i64 t2, .int .i64 t3, .int .i64 t4, .int .i64 sz, .slice SA st.length sc, .slice WA Q.length wq, .slice TA tl.length tc] 32)) (.cells #[.int .i64 old, .int .i64 t0, .int .i64 t1, .int .i64 t2, .int .i64 t3, .int .i64 t4, .int .i64 sz2, .slice SA2 st2.length sc2, .slice WA2 Q2.length wq2, .slice TA2 tl.length tc2] 32)
    have e : (w.alloc (.cells #[.int .i64 old, .int .i64 t0, .int .i64 t1, .int .i64 t2, .int .i64 t3, .int .i64 t4, .int .i64 sz, .slice SA st.length sc, .slice WA Q.length wq, .slice TA tl.length tc] 32)).heap.size = w.heap.size + 1 := by simp
    rw [e] at h
    exact h
  have HB := Lib.hid hb1; have X0 := Lib.hid x0; have X1 := Lib.hid x1
  have HP := Lib.hid (hP.up hb1); have HQ := Lib.hid (hQ.up hb1); have HPP := Lib.hid hpp
  clear hb1 x0 x1 hP hQ hpp
  go_enter Tryz.func9, Tryz.ntmps9
  go_upto_region 1 with (fail)
  generalize (w.alloc (.cells #[.int .i64 old, .int .i64 t0, .int .i64 t1, .int .i64 t2, .int .i64 t3, .int .i64 t4, .int .i64 sz, .slice SA st.length sc, .slice WA Q.length wq, .slice TA tl.length tc] 32)).alloc (.cells #[.int .i64 old, .int .i64 t0, .int .i64 t1, .int .i64 t2, .int .i64 t3, .int .i64 t4, .int .i64 sz2, .slice SA2 st2.length sc2, .slice WA2 Q2.length wq2, .slice TA2 tl.length tc2] 32) = w1 at *
  have c0 : w1.cell? ⟨w.heap.size, 0, none⟩ = some (.int .i64 old) := cell_of_row _ _ 0 _ 32 (0, 0) X0.out
  have c1 : w1.cell? ⟨w.heap.size, 1, none⟩ = some (.int .i64 t0) := cell_of_row _ _ 1 _ 32 (0, 0) X0.out
  have c2 : w1.cell? ⟨w.heap.size, 2, none⟩ = some (.int .i64 t1) := cell_of_row _ _ 2 _ 32 (0, 0) X0.out
  have c3 : w1.cell? ⟨w.heap.size, 3, none⟩ = some (.int .i64 t2) := cell_of_row _ _ 3 _ 32 (0, 0) X0.out
  have c4 : w1.cell? ⟨w.heap.size, 4, none⟩ = some (.int .i64 t3) := cell_of_row _ _ 4 _ 32 (0, 0) X0.out
  have c5 : w1.cell? ⟨w.heap.size, 5, none⟩ = some (.int .i64 t4) := cell_of_row _ _ 5 _ 32 (0, 0) X0.out
  have c6 : w1.cell? ⟨w.heap.size, 6, none⟩ = some (.int .i64 sz) := cell_of_row _ _ 6 _ 32 (0, 0) X0.out
  have c7 : w1.cell? ⟨w.heap.size, 7, none⟩ = some (.slice SA st.length sc) := cell_of_row _ _ 7 _ 32 (0, 0) X0.out
  have c8 : w1.cell? ⟨w.heap.size, 8, none⟩ = some (.slice WA Q.length wq) := cell_of_row _ _ 8 _ 32 (0, 0) X0.out
  have c9 : w1.cell? ⟨w.heap.size, 9, none⟩ = some (.slice TA tl.length tc) := cell_of_row _ _ 9 _ 32 (0, 0) X0.out
  have k0 : w1.cell? ⟨w.heap.size + 1, 0, none⟩ = some (.int .i64 old) := cell_of_row _ _ 0 _ 32 (0, 0) X1.out
  have k1 : w1.cell? ⟨w.heap.size + 1, 1, none⟩ = some (.int .i64 t0) := cell_of_row _ _ 1 _ 32 (0, 0) X1.out
  have k2 : w1.cell? ⟨w.heap.size + 1, 2, none⟩ = some (.int .i64 t1) := cell_of_row _ _ 2 _ 32 (0, 0) X1.out
  have k3 : w1.cell? ⟨w.heap.size + 1, 3, none⟩ = some (.int .i64 t2) := cell_of_row _ _ 3 _ 32 (0, 0) X1.out
  have k4 : w1.cell? ⟨w.heap.size + 1, 4, none⟩ = some (.int .i64 t3) := cell_of_row _ _ 4 _ 32 (0, 0) X1.out
  have k5 : w1.cell? ⟨w.heap.size + 1, 5, none⟩ = some (.int .i64 t4) := cell_of_row _ _ 5 _ 32 (0, 0) X1.out
  have k6 : w1.cell? ⟨w.heap.size + 1, 6, none⟩ = some (.int .i64 sz2) := cell_of_row _ _ 6 _ 32 (0, 0) X1.out
  have k7 : w1.cell? ⟨w.heap.size + 1, 7, none⟩ = some (.slice SA2 st2.length sc2) := cell_of_row _ _ 7 _ 32 (0, 0) X1.out
  have k8 : w1.cell? ⟨w.heap.size + 1, 8, none⟩ = some (.slice WA2 Q2.length wq2) := cell_of_row _ _ 8 _ 32 (0, 0) X1.out
  have k9 : w1.cell? ⟨w.heap.size + 1, 9, none⟩ = some (.slice TA2 tl.length tc2) := cell_of_row _ _ 9 _ 32 (0, 0) X1.out
  have hS := Same_plans ⟨sz, SA, sc, st, WA, wq, Q⟩ ⟨sz2, SA2, sc2, st2, WA2, wq2, Q2⟩ w1 HP.out.p HQ.out.p HPP.out
  unfold PlV.cells at hS
  simp only at hS
  go_wp2_with fail
  refine hS.mono ?_
  rintro e w2 ⟨rfl, hb⟩
  have HB2 := Lib.hid (HB.out.trans (hb.mono HB.out.size))
  have HP2 := Lib.hid (HP.out.up hb); have HQ2 := Lib.hid (HQ.out.up hb)
  have e0 : w2.cell? ⟨w.heap.size, 9, none⟩ = some (.slice TA tl.length tc) := (hb.cell (World.block_lt_of_cell? _ _ c9)).trans c9
  have e1 : w2.cell? ⟨w.heap.size + 1, 9, none⟩ = some (.slice TA2 tl.length tc2) := (hb.cell (World.block_lt_of_cell? _ _ k9)).trans k9
  clear hS hb c0 c1 c2 c3 c4 c5 c6 c7 c8 c9 k0 k1 k2 k3 k4 k5 k6 k7 k8 k9
  go_wp2_with fail
  refine (Re.Same_true TA tl.length tc TA2 tl.length tc2 w2 tl rfl HP2.out.st (Nat.le_trans HP2.out.cap.1 HP2.out.cap.2) rfl HQ2.out.st).mono ?_
  rintro e w3 ⟨rfl, hb⟩
  have HB3 := Lib.hid (HB2.out.trans (hb.mono HB2.out.size))
  clear hb e0 e1
  go_wp2_with fail
  go_ret
  exact ⟨rfl, HB3.out⟩
end Go.Proofs.YtblibmalommdkaaGreat
