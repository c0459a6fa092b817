/-
  The reference's May: may a journal be?
-/
import Derived.Test.YtblibmalommdkaaGreatJSpec
import Derived.Test.YtblibmalommdkaaGreatMMay
import Derived.Test.YtblibmalommdkaaGreatUMay
namespace Go.Proofs.YtblibmalommdkaaGreat
open Go.RowKit
open Re (Sup okS RdB)
open Classical in
noncomputable def mayJB (j : Jn) : Bool := decide (MayJ j)
open Classical in
theorem mayJB_of {j : Jn} (h : MayJ j) : mayJB j = true := by unfold mayJB; simpa using h
open Classical in
theorem mayJB_not {j : Jn} (h : ¬ MayJ j) : mayJB j = false := by unfold mayJB; simpa using h
open Classical in
theorem mayJB_is {j : Jn} : mayJB j = true ↔ MayJ j := by unfold mayJB; simp
theorem right_memJ : ∀ (l : List R) (a : Int), -1 ≤ a → RightF a l → ∀ r ∈ l, 0 ≤ r.1 ∧ r.1 < r.2
  | [], _, _, _ => fun r hr => (by cases hr)
  | x :: l, a, ha, h => fun r hr => by
    obtain ⟨h1, h2, h3⟩ := h
    rcases List.mem_cons.1 hr with rfl | hr
    · exact ⟨by omega, h2⟩
    · exact right_memJ l x.2 (by omega) h3 r hr
theorem tot_takeJ (l : List R) (h : ∀ r ∈ l, 0 ≤ r.1 ∧ r.1 < r.2 ∧ r.2 ≤ 1048576) : ∀ k, k ≤ l.length → 0 ≤ tot (l.take k) ∧ tot (l.take k) ≤ 1048576 * k := by
  intro k
  induction k with
  | zero => intro _; simp [tot]
  | succ k ih =>
    intro hk
    obtain ⟨r, hr⟩ := Sc.get_some l k (by omega)
    rw [Sc.take_snoc l k r hr, tot_snoc]
    have := ih (by omega)
    have := h r (List.mem_of_getElem? hr)
    omega
set_option maxRecDepth 100000 in
set_option maxHeartbeats 4000000 in
theorem RefMayJ_any (v : JnV) (w : World) (hP : JnOk w w.heap.size v) (hn : v.p.stash.length ≤ 100000) (hw : v.p.waves.length ≤ 1000000) :
    Calls Tryz.prog 30 #[.agg v.cells] w fun e w' => e = .returned (.bool (mayJB v.jn)) ∧ Below w.heap.size w w' := by
  obtain ⟨old, ⟨t0, t1, t2, t3, t4⟩, ⟨sz, SA, sc, st, WA, wq, Q⟩, TA, tc, tl⟩ := v
  unfold JnV.cells
  simp only at *
  obtain ⟨CS, hCS⟩ : ∃ CS : Array Value, #[.int .i64 old, .int .i64 t0, .int .i64 t1, .int .i64 t2, .int .i64 t3, .int .i64 t4, .int .i64 sz, .slice SA st.length sc, .slice WA Q.length wq, .slice TA tl.length tc] = CS := ⟨_, rfl⟩
  have hb1 : Below w.heap.size w (w.alloc (.cells CS 32)) := (Below.refl _ _).alloc (Nat.le_refl _) _
  have hx := heap_alloc_new w (.cells CS 32)
  rw [← hCS] at hb1 hx
  have HB := Lib.hid hb1; have HX := Lib.hid hx; have HP := Lib.hid hP
  have hmj : MayJ (JnV.jn ⟨old, ⟨t0, t1, t2, t3, t4⟩, ⟨sz, SA, sc, st, WA, wq, Q⟩, TA, tc, tl⟩) ↔ (0 ≤ old ∧ old ≤ 1048576 ∧ okS ⟨t0, t1, t2, t3, t4⟩ ∧ t4 = sz ∧ PlanP (PlV.pln ⟨sz, SA, sc, st, WA, wq, Q⟩) old t3 ∧ (tl.length : Int) = tot st) := Iff.rfl
  obtain ⟨J, hJ⟩ : ∃ J, JnV.jn ⟨old, ⟨t0, t1, t2, t3, t4⟩, ⟨sz, SA, sc, st, WA, wq, Q⟩, TA, tc, tl⟩ = J := ⟨_, rfl⟩
  rw [hJ] at hmj ⊢
  have HMJ := Lib.hid hmj
  have HPP := Lib.hid (hP.p)
  clear hmj
  clear hb1 hx hP hJ hCS
  obtain ⟨bb, hbb⟩ : ∃ bb, mayJB J = bb := ⟨_, rfl⟩
  rw [hbb]
  have HBB := Lib.hid hbb
  clear hbb
  by_cases h0 : 0 ≤ old
  rotate_left
  · skip
    have i0 : (old < 0) = True := by simp; omega
    go_enter Tryz.func30, Tryz.ntmps30
    go_wp2_with fail
    go_ret
    exact ⟨by rw [← HBB.out, mayJB_not (fun h => by have := (HMJ.out.1 h).1; omega)]; rfl, HB.out⟩
  by_cases h1 : old ≤ 1048576
  rotate_left
  · skip
    go_enter Tryz.func30, Tryz.ntmps30
    go_wp2_with fail
    go_ret
    exact ⟨by rw [← HBB.out, mayJB_not (fun h => by have := (HMJ.out.1 h).2.1; omega)]; rfl, HB.out⟩
  have hcs := fun x : World => Re.RefMayS_any ⟨t0, t1, t2, t3, t4⟩ x
  unfold Re.Sup.cells at hcs
  simp only at hcs
  go_enter Tryz.func30, Tryz.ntmps30
  go_wp2_with fail
  refine (hcs _).mono ?_
  rintro e w1 ⟨rfl, hb⟩
  have HB1 := Lib.hid (HB.out.trans (hb.mono (by simp)))
  have HX1 := Lib.hid ((hb.block _ (by simp)).trans HX.out)
  have HP1 := Lib.hid (((HPP.out.up HB.out).up hb))
  clear hb hcs HX HB
  have c0 : w1.cell? ⟨w.heap.size, 0, none⟩ = some (.int .i64 old) := cell_of_row _ _ 0 _ 32 (0, 0) HX1.out
  have c1 : w1.cell? ⟨w.heap.size, 1, none⟩ = some (.int .i64 t0) := cell_of_row _ _ 1 _ 32 (0, 0) HX1.out
  have c2 : w1.cell? ⟨w.heap.size, 2, none⟩ = some (.int .i64 t1) := cell_of_row _ _ 2 _ 32 (0, 0) HX1.out
  have c3 : w1.cell? ⟨w.heap.size, 3, none⟩ = some (.int .i64 t2) := cell_of_row _ _ 3 _ 32 (0, 0) HX1.out
  have c4 : w1.cell? ⟨w.heap.size, 4, none⟩ = some (.int .i64 t3) := cell_of_row _ _ 4 _ 32 (0, 0) HX1.out
  have c5 : w1.cell? ⟨w.heap.size, 5, none⟩ = some (.int .i64 t4) := cell_of_row _ _ 5 _ 32 (0, 0) HX1.out
  have c6 : w1.cell? ⟨w.heap.size, 6, none⟩ = some (.int .i64 sz) := cell_of_row _ _ 6 _ 32 (0, 0) HX1.out
  have c7 : w1.cell? ⟨w.heap.size, 7, none⟩ = some (.slice SA st.length sc) := cell_of_row _ _ 7 _ 32 (0, 0) HX1.out
  have c8 : w1.cell? ⟨w.heap.size, 8, none⟩ = some (.slice WA Q.length wq) := cell_of_row _ _ 8 _ 32 (0, 0) HX1.out
  have c9 : w1.cell? ⟨w.heap.size, 9, none⟩ = some (.slice TA tl.length tc) := cell_of_row _ _ 9 _ 32 (0, 0) HX1.out
  by_cases h2 : okS ⟨t0, t1, t2, t3, t4⟩
  rotate_left
  · have hd : decide (okS ⟨t0, t1, t2, t3, t4⟩) = false := decide_eq_false h2
    rw [hd]
    go_wp2_with fail
    go_ret
    exact ⟨by rw [← HBB.out, mayJB_not (fun h => h2 (HMJ.out.1 h).2.2.1)]; rfl, HB1.out⟩
  have hd : decide (okS ⟨t0, t1, t2, t3, t4⟩) = true := decide_eq_true h2
  rw [hd]
  clear hd
  by_cases h3 : t4 = sz
  rotate_left
  · skip
    go_wp2_with fail
    go_ret
    exact ⟨by rw [← HBB.out, mayJB_not (fun h => h3 (HMJ.out.1 h).2.2.2.1)]; rfl, HB1.out⟩
  subst h3
  have hbt : 0 ≤ t3 ∧ t3 ≤ 16777216 := ⟨h2.2.2.2.2.2.2.1, h2.2.2.2.2.2.2.2.1⟩
  have H2 := Lib.hid h2
  have hcp := May_any ⟨t4, SA, sc, st, WA, wq, Q⟩ old t3 w1 HP1.out (by omega) (by omega) hn hw
  unfold PlV.cells at hcp
  simp only at hcp
  clear h2
  go_wp2_with fail
  refine hcp.mono ?_
  rintro e w2 ⟨rfl, hb⟩
  have HB2 := Lib.hid (HB1.out.trans (hb.mono HB1.out.size))
  have HP2 := Lib.hid (HP1.out.up hb)
  have HX2 := Lib.hid ((hb.block _ (Array.getElem?_eq_some_iff.1 HX1.out).1).trans HX1.out)
  clear hb hcp c0 c1 c2 c3 c4 c5 c6 c7 c8 c9 HX1
  have c0 : w2.cell? ⟨w.heap.size, 0, none⟩ = some (.int .i64 old) := cell_of_row _ _ 0 _ 32 (0, 0) HX2.out
  have c1 : w2.cell? ⟨w.heap.size, 1, none⟩ = some (.int .i64 t0) := cell_of_row _ _ 1 _ 32 (0, 0) HX2.out
  have c2 : w2.cell? ⟨w.heap.size, 2, none⟩ = some (.int .i64 t1) := cell_of_row _ _ 2 _ 32 (0, 0) HX2.out
  have c3 : w2.cell? ⟨w.heap.size, 3, none⟩ = some (.int .i64 t2) := cell_of_row _ _ 3 _ 32 (0, 0) HX2.out
  have c4 : w2.cell? ⟨w.heap.size, 4, none⟩ = some (.int .i64 t3) := cell_of_row _ _ 4 _ 32 (0, 0) HX2.out
  have c5 : w2.cell? ⟨w.heap.size, 5, none⟩ = some (.int .i64 t4) := cell_of_row _ _ 5 _ 32 (0, 0) HX2.out
  have c6 : w2.cell? ⟨w.heap.size, 6, none⟩ = some (.int .i64 t4) := cell_of_row _ _ 6 _ 32 (0, 0) HX2.out
  have c7 : w2.cell? ⟨w.heap.size, 7, none⟩ = some (.slice SA st.length sc) := cell_of_row _ _ 7 _ 32 (0, 0) HX2.out
  have c8 : w2.cell? ⟨w.heap.size, 8, none⟩ = some (.slice WA Q.length wq) := cell_of_row _ _ 8 _ 32 (0, 0) HX2.out
  have c9 : w2.cell? ⟨w.heap.size, 9, none⟩ = some (.slice TA tl.length tc) := cell_of_row _ _ 9 _ 32 (0, 0) HX2.out
  by_cases h4 : PlanP (PlV.pln ⟨t4, SA, sc, st, WA, wq, Q⟩) old t3
  rotate_left
  · rw [planB_not h4]
    go_wp2_with fail
    go_ret
    exact ⟨by rw [← HBB.out, mayJB_not (fun h => h4 (HMJ.out.1 h).2.2.2.2.1)]; rfl, HB2.out⟩
  rw [planB_of h4]
  have H4 := Lib.hid h4
  have htt : ∀ r ∈ st, 0 ≤ r.1 ∧ r.1 < r.2 ∧ r.2 ≤ 1048576 := fun r hr => by
    have e1 := right_memJ st (-1) (by omega) h4.2.2.1 r hr
    have e2 := h4.2.2.2.1 r hr
    omega
  have HTT := Lib.hid htt
  clear h4 htt HP
  go_wp2_with fail
  clear c0 c1 c2 c3 c4 c5 c6 c7 c8 c9 HP1 HB1
  go_loopw [3, 4] (fun s i wr => ∃ k : Nat, k ≤ st.length ∧ i = .int .i64 k ∧ s = .int .i64 (tot (st.take k)) ∧ Hid (Below w2.heap.size w2 wr)) (fun _ i _ => st.length - (intOf i).toNat)
  case atStart => exact ⟨0, Nat.zero_le _, rfl, rfl, Lib.hid (Below.refl _ _)⟩
  case round =>
    obtain ⟨k, hk, rfl, rfl, hb⟩ := hrel
    have HXr := Lib.hid ((hb.out.block _ (Array.getElem?_eq_some_iff.1 HX2.out).1).trans HX2.out)
    have c7 : wr.cell? ⟨w.heap.size, 7, none⟩ = some (.slice SA st.length sc) := cell_of_row _ _ 7 _ 32 (0, 0) HXr.out
    have c9 : wr.cell? ⟨w.heap.size, 9, none⟩ = some (.slice TA tl.length tc) := cell_of_row _ _ 9 _ 32 (0, 0) HXr.out
    by_cases hlt : k < st.length
    · obtain ⟨s, hs⟩ := Sc.get_some st k hlt
      obtain ⟨b, off, rfl, hb', d0, d1⟩ := (HP2.out.st.below hb.out (Nat.le_refl _)) k s hs
      have E1 : Hid (tot (st.take (k+1)) = tot (st.take k) + s.2 - s.1) := Lib.hid (by rw [Sc.take_snoc st k s hs, tot_snoc]; omega)
      have q0 := tot_takeJ st HTT.out k hk
      have q1 := HTT.out s (List.mem_of_getElem? hs)
      clear hs c9
      generalize tot (st.take k) = T at *
      go_wp2_with fail
      go_quiet (fail)
      go_wp2_with fail
      go_roundw
      case rel => exact ⟨k+1, by omega, by go_num, by simp only [E1.out], Lib.hid (belowDrewN hb.out _)⟩
      case measure => simp [intOf]; omega
    · obtain rfl : k = st.length := by omega
      clear hlt hk
      rw [List.take_length]
      have HBF := Lib.hid (HB2.out.trans (hb.out.mono HB2.out.size))
      by_cases h5 : (tl.length : Int) = tot st
      · have hm : mayJB J = true := mayJB_of (HMJ.out.2 ⟨h0, h1, H2.out, by trivial, H4.out, h5⟩)
        have HM := Lib.hid (HBB.out.symm.trans hm)
        have e5 : ((tl.length : Int) == tot st) = true := by simp [h5]
        clear hm h5
        generalize tot st = T at *
        go_wp2_with fail
        go_ret
        exact ⟨by rw [HM.out]; first | rfl | (simp [e5]), HBF.out⟩
      · have hm : mayJB J = false := mayJB_not (fun h => h5 (HMJ.out.1 h).2.2.2.2.2)
        have HM := Lib.hid (HBB.out.symm.trans hm)
        have e5 : ((tl.length : Int) == tot st) = false := by simp [h5]
        clear hm
        generalize tot st = T at *
        go_wp2_with fail
        go_ret
        exact ⟨by rw [HM.out]; first | rfl | (simp [e5]), HBF.out⟩
end Go.Proofs.YtblibmalommdkaaGreat
