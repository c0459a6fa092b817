/-
  The reference's Open: what is read of a journal's bytes.
-/
import Derived.Test.YtblibmalommdkaaGreatKB
import Derived.Test.YtblibmalommdkaaGreatUOpenr
import Derived.Test.YtblibmalommdkaaGreatJSpec
import Derived.Test.YtblibmalommdkaaGreatRMay
namespace Go.Proofs.YtblibmalommdkaaGreat
open Go.RowKit
open Re (Rdg RdB Bytes num many Many pPlan pRange pWave pStep pPart leVal Sup outS openS sup0 okS)
set_option maxRecDepth 100000 in
set_option maxHeartbeats 8000000 in
theorem RefOpen_any (w : World) (A : Option Addr) (n c : Nat) (l : List Int) (hl : l.length = n) (hr : RdB w w.heap.size A l) (hy : Bytes l) (hn : n ≤ 1073741824) (hc : n ≤ c ∧ c ≤ 9223372036854775807) (hno : A = none → n = 0 ∧ c = 0) (hsm : ∀ q b, pPlan l 68 = some (q, b) → q.stash.length ≤ 100000 ∧ q.waves.length ≤ 1000000) :
    Calls Tryz.prog 8 #[.slice A n c] w fun e w' => ((∃ v : JnV, pJour l = some v.jn ∧ MayJ v.jn ∧ e = .returned (.tuple #[.agg v.cells, .int .i64 0]) ∧ JnOk w' w'.heap.size v) ∨ ((∀ j, pJour l = some j → ¬ MayJ j) ∧ e = .returned (.tuple #[.agg jn0.cells, .int .i64 4]))) ∧ Below w.heap.size w w' := by
  obtain ⟨i0, hi, hz0, hz1, hz2⟩ := info_parts info29
  obtain ⟨k0, ki, kz0, kz1, kz2⟩ := info_parts info43
  obtain ⟨q0, qi, qz0, qz1, qz2⟩ := info_parts info70
  obtain ⟨j0, ji, jz0, jz1, jz2⟩ := info_parts Sc.info31
  have HL := Lib.hid hl; have HY := Lib.hid hy; have HRB := Lib.hid hr; have HC := Lib.hid hc; have HNO := Lib.hid hno; have HSM := Lib.hid hsm
  have hcl := hc
  clear hl hr hy hno hc hsm
  go_enter Tryz.func8, Tryz.ntmps8
  go_upto_region 2 with (fail)
  have hg0 : Below w.heap.size w ((w.alloc (.cells #[.int .i64 0, .int .i64 0, .int .i64 0, .int .i64 0, .int .i64 0, .int .i64 0, .int .i64 0, .slice none 0 0, .slice none 0 0, .slice none 0 0] 32)).alloc (.cells #[.slice A n c, .int .i64 0, .bool false] 70)) := ((Below.refl _ _).alloc (Nat.le_refl _) _).alloc (by simp) _
  have x0 : ((w.alloc (.cells #[.int .i64 0, .int .i64 0, .int .i64 0, .int .i64 0, .int .i64 0, .int .i64 0, .int .i64 0, .slice none 0 0, .slice none 0 0, .slice none 0 0] 32)).alloc (.cells #[.slice A n c, .int .i64 0, .bool false] 70)).heap[w.heap.size]? = some (.cells #[.int .i64 0, .int .i64 0, .int .i64 0, .int .i64 0, .int .i64 0, .int .i64 0, .int .i64 0, .slice none 0 0, .slice none 0 0, .slice none 0 0] 32 (0, 0)) := (heap_alloc_old _ _ (by simp)).trans (heap_alloc_new w _)
  have x1 : ((w.alloc (.cells #[.int .i64 0, .int .i64 0, .int .i64 0, .int .i64 0, .int .i64 0, .int .i64 0, .int .i64 0, .slice none 0 0, .slice none 0 0, .slice none 0 0] 32)).alloc (.cells #[.slice A n c, .int .i64 0, .bool false] 70)).heap[w.heap.size + 1]? = some (.cells #[.slice A n c, .int .i64 0, .bool false] 70 (0, 0)) := by
    have h := heap_alloc_new (w.alloc (.cells #[.int .i64 0, .int .i64 0, .int .i64 0, .int .i64 0, .int .i64 0, .int .i64 0, .int .i64 0, .slice none 0 0, .slice none 0 0, .slice none 0 0] 32)) (.cells #[.slice A n c, .int .i64 0, .bool false] 70)
    have e : (w.alloc (.cells #[.int .i64 0, .int .i64 0, .int .i64 0, .int .i64 0, .int .i64 0, .int .i64 0, .int .i64 0, .slice none 0 0, .slice none 0 0, .slice none 0 0] 32)).heap.size = w.heap.size + 1 := by simp
    rw [e] at h
    exact h
  have hsz1 : ((w.alloc (.cells #[.int .i64 0, .int .i64 0, .int .i64 0, .int .i64 0, .int .i64 0, .int .i64 0, .int .i64 0, .slice none 0 0, .slice none 0 0, .slice none 0 0] 32)).alloc (.cells #[.slice A n c, .int .i64 0, .bool false] 70)).heap.size = w.heap.size + 2 := by simp
  have HRD : Hid (Rdg ((w.alloc (.cells #[.int .i64 0, .int .i64 0, .int .i64 0, .int .i64 0, .int .i64 0, .int .i64 0, .int .i64 0, .slice none 0 0, .slice none 0 0, .slice none 0 0] 32)).alloc (.cells #[.slice A n c, .int .i64 0, .bool false] 70)) (w.heap.size + 1) A n c 0 l false) := Lib.hid ⟨by simpa using x1, (HRB.out.below hg0 (Nat.le_refl _)).more (by omega), HL.out, HC.out, HNO.out⟩
  have HG0 := Lib.hid hg0; have HX0 := Lib.hid x0
  clear hg0 x0 x1
  generalize ((w.alloc (.cells #[.int .i64 0, .int .i64 0, .int .i64 0, .int .i64 0, .int .i64 0, .int .i64 0, .int .i64 0, .slice none 0 0, .slice none 0 0, .slice none 0 0] 32)).alloc (.cells #[.slice A n c, .int .i64 0, .bool false] 70)) = w1 at *
  obtain ⟨gb, hgb⟩ : ∃ gb, w.heap.size + 1 = gb := ⟨_, rfl⟩
  rw [hgb] at HRD ⊢
  go_wp2_with fail
  refine (Re.next_all w1 gb n c 0 A l false HRD.out HY.out hn (by omega) 4 (by omega) (by omega)).mono ?_
  rintro e w2 ⟨old, a1, bad1, rfl, hR, ha1, hold, hgood1, hbad1, hg⟩
  have hs2 := hg.size
  have hjs : JS w (w2.alloc (.cells #[.int .i64 old, .int .i64 0, .int .i64 0, .int .i64 0, .int .i64 0, .int .i64 0, .int .i64 0, .slice none 0 0, .slice none 0 0, .slice none 0 0] 32)) gb w2.heap.size old 0 0 0 0 0 0 none 0 [] none 0 [] :=
    ⟨(heap_alloc_old _ _ (by omega)).trans ((hg.block _ (by omega) (by simp; omega)).trans HX0.out), heap_alloc_new _ _, by omega, by omega, ⟨Own.nil _ _, OwnW.nil _ _, fun v hv => (by cases hv), fun i j u v b hi => (by simp at hi)⟩, ((HG0.out.grown hg (by omega) (fun k h => by injection h with h; omega)).alloc (by omega) _)⟩
  have HJS := Lib.hid hjs
  have HR2 := Lib.hid (rdg_alloc hR (.cells #[.int .i64 old, .int .i64 0, .int .i64 0, .int .i64 0, .int .i64 0, .int .i64 0, .int .i64 0, .slice none 0 0, .slice none 0 0, .slice none 0 0] 32))
  have HGD1 := Lib.hid hgood1; have HBD1 := Lib.hid hbad1
  clear hR hg hjs hgood1 hbad1
  go_upto_region 3 with (fail)
  generalize w2.alloc (.cells #[.int .i64 old, .int .i64 0, .int .i64 0, .int .i64 0, .int .i64 0, .int .i64 0, .int .i64 0, .slice none 0 0, .slice none 0 0, .slice none 0 0] 32) = w3 at *
  generalize w2.heap.size = jb at *
  by_cases h68 : n < 68
  · have HFAIL : Hid (∀ j, pJour l = some j → ¬ MayJ j) := Lib.hid (fun j hj => by
      unfold pJour at hj
      cases h : num l 4 0 with
      | none => simp [h] at hj
      | some p => simp only [h, Option.bind_some] at hj; rw [if_neg (by rw [HL.out]; omega)] at hj; cases hj)
    have HGR := Lib.hid HJS.out.gr
    have e0 : w3.cell? ⟨w.heap.size, 0, none⟩ = some (.int .i64 0) := cell_of_row _ _ 0 _ 32 (0, 0) HJS.out.b0
    have e1 : w3.cell? ⟨w.heap.size, 1, none⟩ = some (.int .i64 0) := cell_of_row _ _ 1 _ 32 (0, 0) HJS.out.b0
    have e2 : w3.cell? ⟨w.heap.size, 2, none⟩ = some (.int .i64 0) := cell_of_row _ _ 2 _ 32 (0, 0) HJS.out.b0
    have e3 : w3.cell? ⟨w.heap.size, 3, none⟩ = some (.int .i64 0) := cell_of_row _ _ 3 _ 32 (0, 0) HJS.out.b0
    have e4 : w3.cell? ⟨w.heap.size, 4, none⟩ = some (.int .i64 0) := cell_of_row _ _ 4 _ 32 (0, 0) HJS.out.b0
    have e5 : w3.cell? ⟨w.heap.size, 5, none⟩ = some (.int .i64 0) := cell_of_row _ _ 5 _ 32 (0, 0) HJS.out.b0
    have e6 : w3.cell? ⟨w.heap.size, 6, none⟩ = some (.int .i64 0) := cell_of_row _ _ 6 _ 32 (0, 0) HJS.out.b0
    have e7 : w3.cell? ⟨w.heap.size, 7, none⟩ = some (.slice none 0 0) := cell_of_row _ _ 7 _ 32 (0, 0) HJS.out.b0
    have e8 : w3.cell? ⟨w.heap.size, 8, none⟩ = some (.slice none 0 0) := cell_of_row _ _ 8 _ 32 (0, 0) HJS.out.b0
    have e9 : w3.cell? ⟨w.heap.size, 9, none⟩ = some (.slice none 0 0) := cell_of_row _ _ 9 _ 32 (0, 0) HJS.out.b0
    have f0 : w3.frozen? ⟨w.heap.size, 0, none⟩ = false := frozen_of_row _ _ 0 _ _ HJS.out.b0
    have f1 : w3.frozen? ⟨w.heap.size, 1, none⟩ = false := frozen_of_row _ _ 1 _ _ HJS.out.b0
    have f2 : w3.frozen? ⟨w.heap.size, 2, none⟩ = false := frozen_of_row _ _ 2 _ _ HJS.out.b0
    have f3 : w3.frozen? ⟨w.heap.size, 3, none⟩ = false := frozen_of_row _ _ 3 _ _ HJS.out.b0
    have f4 : w3.frozen? ⟨w.heap.size, 4, none⟩ = false := frozen_of_row _ _ 4 _ _ HJS.out.b0
    have f5 : w3.frozen? ⟨w.heap.size, 5, none⟩ = false := frozen_of_row _ _ 5 _ _ HJS.out.b0
    have f6 : w3.frozen? ⟨w.heap.size, 6, none⟩ = false := frozen_of_row _ _ 6 _ _ HJS.out.b0
    have f7 : w3.frozen? ⟨w.heap.size, 7, none⟩ = false := frozen_of_row _ _ 7 _ _ HJS.out.b0
    have f8 : w3.frozen? ⟨w.heap.size, 8, none⟩ = false := frozen_of_row _ _ 8 _ _ HJS.out.b0
    have f9 : w3.frozen? ⟨w.heap.size, 9, none⟩ = false := frozen_of_row _ _ 9 _ _ HJS.out.b0
    go_wp2_with fail
    refine bodyPost_ret (v := .tuple #[.agg #[.int .i64 0, .int .i64 0, .int .i64 0, .int .i64 0, .int .i64 0, .int .i64 0, .int .i64 0, .slice none 0 0, .slice none 0 0, .slice none 0 0], .int .i64 4]) (by simp [results, Tryz.results8, go_sem, e0, e1, e2, e3, e4, e5, e6, e7, e8, e9]) rfl ?_
    exact ⟨.inr ⟨HFAIL.out, rfl⟩, (((((((((HGR.out.setCell (Nat.le_refl _) _).setCell (Nat.le_refl _) _).setCell (Nat.le_refl _) _).setCell (Nat.le_refl _) _).setCell (Nat.le_refl _) _).setCell (Nat.le_refl _) _).setCell (Nat.le_refl _) _).setCell (Nat.le_refl _) _).setCell (Nat.le_refl _) _).setCell (Nat.le_refl _) _⟩
  · have hbd1 : bad1 = false := by
      cases hb : bad1 with
      | false => rfl
      | true =>
        rcases HBD1.out hb with h | h
        · cases h
        · have := Re.num_none h; have := HL.out; omega
    subst hbd1
    obtain ⟨_, HN0⟩ := HGD1.out rfl
    have HN0 := Lib.hid HN0
    clear HGD1 HBD1
    have HPJ : Hid (pJour l = (openS ((l.drop 4).take 64)).bind fun s => (pPlan l 68).map fun p => ⟨old, s, p.1, l.drop p.2⟩) := Lib.hid (by unfold pJour; rw [HN0.out]; simp only [Option.bind_some]; rw [if_pos (by rw [HL.out]; omega)])
    obtain ⟨s', hs'⟩ := Re.get_some l 0 (by rw [HL.out]; omega)
    obtain ⟨b, off, rfl, hbl, _⟩ := HRB.out 0 s' hs'
    clear hs'
    have hrp : RdB w w.heap.size (some ⟨b, off + 4, none⟩) ((l.drop 4).take 64) := HRB.out.piece 4 64
    have hl64 : ((l.drop 4).take 64).length = 64 := by rw [List.length_take, List.length_drop, HL.out]; omega
    have hy64 := Re.bytes_take (Re.bytes_drop HY.out 4) 64
    have hcall := RefOpenS_any b (off + 4) (c - 4) w3 ((l.drop 4).take 64) hl64 ((hrp.below HJS.out.gr (Nat.le_refl _)).more (by have := HJS.out.gr.size; omega)) hy64 (by omega) (by omega)
    have i68 : (68 : Int) ≤ (c : Int) := by omega
    have n4 : ¬ (c = 4) := by omega
    clear hrp hl64 hy64
    rcases out_open ((l.drop 4).take 64) with ⟨s, hos, hout⟩ | ⟨hos, hout⟩
    · rw [hout] at hcall
      simp only at hcall
      have HOS := Lib.hid hos
      clear hout hos
      obtain ⟨t0, t1, t2, t3, t4⟩ := s
      unfold Re.Sup.cells at hcall
      simp only at hcall
      go_wp2_with fail
      refine hcall.mono ?_
      rintro e w4 ⟨rfl, hb⟩
      have HJ4 := Lib.hid (HJS.out.below hb)
      have HR4 := Lib.hid (HR2.out.below hb)
      clear hb hcall HJS HR2
      go_upto_region 8 with (fail)
      have hnew := heap_alloc_new w4 (.cells #[.int .i64 t0, .int .i64 t1, .int .i64 t2, .int .i64 t3, .int .i64 t4] 26)
      have hal : Below w4.heap.size w4 (w4.alloc (.cells #[.int .i64 t0, .int .i64 t1, .int .i64 t2, .int .i64 t3, .int .i64 t4] 26)) := (Below.refl _ _).alloc (Nat.le_refl _) _
      have HJ5 := Lib.hid (HJ4.out.below hal)
      have HR5 := Lib.hid (HR4.out.below hal)
      clear hal HJ4 HR4
      generalize w4.alloc (.cells #[.int .i64 t0, .int .i64 t1, .int .i64 t2, .int .i64 t3, .int .i64 t4] 26) = w5 at *
      have g0 : w5.cell? ⟨w4.heap.size, 0, none⟩ = some (.int .i64 t0) := cell_of_row _ _ 0 _ 26 (0, 0) hnew
      have g1 : w5.cell? ⟨w4.heap.size, 1, none⟩ = some (.int .i64 t1) := cell_of_row _ _ 1 _ 26 (0, 0) hnew
      have g2 : w5.cell? ⟨w4.heap.size, 2, none⟩ = some (.int .i64 t2) := cell_of_row _ _ 2 _ 26 (0, 0) hnew
      have g3 : w5.cell? ⟨w4.heap.size, 3, none⟩ = some (.int .i64 t3) := cell_of_row _ _ 3 _ 26 (0, 0) hnew
      have g4 : w5.cell? ⟨w4.heap.size, 4, none⟩ = some (.int .i64 t4) := cell_of_row _ _ 4 _ 26 (0, 0) hnew
      have b1 : w5.cell? ⟨jb, 1, none⟩ = some (.int .i64 0) := cell_of_row _ _ 1 _ 32 (0, 0) HJ5.out.b2
      have b2 : w5.cell? ⟨jb, 2, none⟩ = some (.int .i64 0) := cell_of_row _ _ 2 _ 32 (0, 0) HJ5.out.b2
      have b3 : w5.cell? ⟨jb, 3, none⟩ = some (.int .i64 0) := cell_of_row _ _ 3 _ 32 (0, 0) HJ5.out.b2
      have b4 : w5.cell? ⟨jb, 4, none⟩ = some (.int .i64 0) := cell_of_row _ _ 4 _ 32 (0, 0) HJ5.out.b2
      have b5 : w5.cell? ⟨jb, 5, none⟩ = some (.int .i64 0) := cell_of_row _ _ 5 _ 32 (0, 0) HJ5.out.b2
      have z1 := HJ5.out.fz 1
      have z2 := HJ5.out.fz 2
      have z3 := HJ5.out.fz 3
      have z4 := HJ5.out.fz 4
      have z5 := HJ5.out.fz 5
      clear hnew
      go_upto_region 9 with (fail)
      have HJ6 : Hid (JS w (((((w5.setCell ⟨jb, 1, none⟩ (.int .i64 t0)).setCell ⟨jb, 2, none⟩ (.int .i64 t1)).setCell ⟨jb, 3, none⟩ (.int .i64 t2)).setCell ⟨jb, 4, none⟩ (.int .i64 t3)).setCell ⟨jb, 5, none⟩ (.int .i64 t4)) gb jb old t0 t1 t2 t3 t4 0 none 0 [] none 0 []) := Lib.hid (((((HJ5.out.put1 t0).put2 t1).put3 t2).put4 t3).put5 t4)
      have hql := HJ5.out.qlt
      have HR6 : Hid (Rdg (((((w5.setCell ⟨jb, 1, none⟩ (.int .i64 t0)).setCell ⟨jb, 2, none⟩ (.int .i64 t1)).setCell ⟨jb, 3, none⟩ (.int .i64 t2)).setCell ⟨jb, 4, none⟩ (.int .i64 t3)).setCell ⟨jb, 5, none⟩ (.int .i64 t4)) gb (some ⟨b, off, none⟩) n c a1 l false) := Lib.hid (rdg_set (rdg_set (rdg_set (rdg_set (rdg_set HR5.out ⟨jb, 1, none⟩ _ hql) ⟨jb, 2, none⟩ _ hql) ⟨jb, 3, none⟩ _ hql) ⟨jb, 4, none⟩ _ hql) ⟨jb, 5, none⟩ _ hql)
      clear g0 g1 g2 g3 g4 b1 b2 b3 b4 b5 z1 z2 z3 z4 z5 HJ5 HR5
      generalize ((((w5.setCell ⟨jb, 1, none⟩ (.int .i64 t0)).setCell ⟨jb, 2, none⟩ (.int .i64 t1)).setCell ⟨jb, 3, none⟩ (.int .i64 t2)).setCell ⟨jb, 4, none⟩ (.int .i64 t3)).setCell ⟨jb, 5, none⟩ (.int .i64 t4) = w6 at *
      have c1 := HR6.out.c1
      have f1 := HR6.out.fz 1
      go_upto_region 10 with (fail)
      have HR7 : Hid (Rdg (w6.setCell ⟨gb, 1, none⟩ (.int .i64 68)) gb (some ⟨b, off, none⟩) n c 68 l false) := Lib.hid (HR6.out.at 68)
      have HJ7 := Lib.hid (HJ6.out.up (Re.grown_setCell w6 ⟨gb, 1, none⟩ (.int .i64 68)))
      clear c1 f1 HR6 HJ6
      generalize w6.setCell ⟨gb, 1, none⟩ (.int .i64 68) = w7 at *
      obtain ⟨R0, hR0⟩ : ∃ R0, pPlan l 68 = R0 := ⟨_, rfl⟩
      have HPL := Lib.hid hR0
      rw [HOS.out] at HPJ
      simp only [Option.bind_some] at HPJ
      rw [hR0] at HPJ
      clear hR0
      go_wp2_with fail
      refine (Re.next_all w7 gb n c 68 _ l false HR7.out HY.out hn (by omega) 4 (by omega) (by omega)).mono ?_
      rintro e w8 ⟨sz, a2, bad2, rfl, hR, ha2, hsz, hgood, hbad, hg⟩
      have HJ8 := Lib.hid (HJ7.out.up hg)
      have b6 : w8.cell? ⟨jb, 6, none⟩ = some (.int .i64 0) := cell_of_row _ _ 6 _ 32 (0, 0) HJ8.out.b2
      have z6 := HJ8.out.fz 6
      have HJ9 := Lib.hid (HJ8.out.put6 sz)
      have HR9 := Lib.hid (rdg_set hR ⟨jb, 6, none⟩ (.int .i64 sz) HJ8.out.qlt)
      have HGD2 : Hid (bad2 = false → num l 4 68 = some (sz, a2)) := Lib.hid (fun h => (hgood h).2)
      have HBD2 : Hid (bad2 = true → R0 = none) := Lib.hid (fun h => by
        rcases hbad h with h | h
        · cases h
        · rw [← HPL.out]; unfold pPlan; rw [h]; rfl)
      clear hR hg hgood hbad HJ7 HR7
      go_upto_region 11 with (fail)
      clear b6 z6
      generalize w8.setCell ⟨jb, 6, none⟩ (.int .i64 sz) = w9 at *
      go_wp2_with fail
      refine (Re.next_all w9 gb n c a2 _ l bad2 HR9.out HY.out hn ha2 4 (by omega) (by omega)).mono ?_
      rintro e w10 ⟨N, a3, bad3, rfl, hR, ha3, hN, hgood, hbad, hg⟩
      obtain ⟨N', rfl⟩ : ∃ N' : Nat, N = (N' : Int) := Int.eq_ofNat_of_zero_le hN.1
      have HJ10 := Lib.hid (HJ9.out.up hg)
      have HR10 := Lib.hid hR
      have HGD3 : Hid (bad3 = false → num l 4 68 = some (sz, a2) ∧ num l 4 a2 = some ((N' : Int), a3)) := Lib.hid (fun h => ⟨HGD2.out (hgood h).1, (hgood h).2⟩)
      have HBD3 : Hid (bad3 = true → R0 = none) := Lib.hid (fun h => by
        cases hb2 : bad2 with
        | true => exact HBD2.out hb2
        | false =>
          rcases hbad h with h | h
          · rw [hb2] at h; cases h
          · rw [← HPL.out]; unfold pPlan; rw [HGD2.out hb2]; simp only [Option.bind_some]; rw [h]; rfl)
      have HP1 : Hid (bad3 = false → many (pRange l) N' a3 = none → R0 = none) := Lib.hid (fun h hm => by
        obtain ⟨h1, h2⟩ := HGD3.out h
        rw [← HPL.out]; unfold pPlan; rw [h1]; simp only [Option.bind_some, h2, Int.toNat_natCast, hm, Option.bind_none])
      have hN4 : (N' : Int) < 4294967296 := by have := hN.2; simpa using this
      clear hR hg hgood hbad HJ9 HR9 HGD2 HBD2
      go_upto_block 0 with (fail)
      go_cut [8, 9, 10] (fun _ _ _ wx => ∃ (a sc : Nat) (SA : Option Addr) (st : List R) (bad : Bool), a ≤ n ∧ Hid (JS w wx gb jb old t0 t1 t2 t3 t4 sz SA sc st none 0 [] ∧ Rdg wx gb (some ⟨b, off, none⟩) n c a l bad ∧ (bad = false → bad3 = false ∧ many (pRange l) N' a3 = some (st, a)) ∧ (bad = true → R0 = none)))
      case first =>
        go_wp2_with fail
        go_loopw [8] (fun i wr => ∃ (k a sc : Nat) (SA : Option Addr) (st : List R) (bad : Bool), i = .int .i64 ((N' : Int) - k) ∧ k ≤ N' ∧ a ≤ n ∧ k * 8 ≤ n + 8 ∧ st.length = k ∧ Hid (JS w wr gb jb old t0 t1 t2 t3 t4 sz SA sc st none 0 [] ∧ Rdg wr gb (some ⟨b, off, none⟩) n c a l bad ∧ (bad = false → bad3 = false ∧ Many (pRange l) N' a3 k st a ∧ a3 + k * 8 ≤ a) ∧ (bad = true → R0 = none))) (fun i _ => (intOf i).toNat)
        case atStart => exact ⟨0, a3, 0, none, [], bad3, by simp, Nat.zero_le _, ha3, by omega, rfl, Lib.hid ⟨HJ10.out, HR10.out, fun h => ⟨h, Many.start _ _ _, by omega⟩, HBD3.out⟩⟩
        case round =>
          clear HJ10 HR10
          obtain ⟨k, a, sc, SA, st, bad, rfl, hkN, ha, hk8, hst, HI⟩ := hrel
          have cb := HI.out.2.1.c2
          by_cases hgo : k < N' ∧ bad = false
          · obtain ⟨hlt, rfl⟩ := hgo
            have hpos : (0 : Int) < (N' : Int) - (k : Int) := by omega
            have HM := Lib.hid (HI.out.2.2.1 rfl)
            have HJr := Lib.hid HI.out.1
            have HRr := Lib.hid HI.out.2.1
            have hk8' : k * 8 ≤ n := by have := HM.out.2.2; omega
            clear HI
            go_wp2_with fail
            refine (Re.next_all wr gb n c a _ l false HRr.out HY.out hn ha 4 (by omega) (by omega)).mono ?_
            rintro e w11 ⟨fr, b1, badf, rfl, hR, hb1, -, hgood, hbad, hg⟩
            have HJ11 := Lib.hid (HJr.out.up hg)
            have HR11 := Lib.hid hR
            have HGf := Lib.hid hgood; have HBf := Lib.hid hbad
            clear hR hg hgood hbad cb HJr HRr
            go_wp2_with fail
            refine (Re.next_all w11 gb n c b1 _ l badf HR11.out HY.out hn hb1 4 (by omega) (by omega)).mono ?_
            rintro e w12 ⟨tv, b2, badt, rfl, hR, hb2, -, hgood, hbad, hg⟩
            have HJ12 := Lib.hid (HJ11.out.up hg)
            have HR12 := Lib.hid hR
            have HGt : Hid (badt = false → pRange l a = some ((fr, tv), b2) ∧ b2 = a + 8) := Lib.hid (fun h => by
              obtain ⟨h1, h2⟩ := hgood h
              obtain ⟨_, h3⟩ := HGf.out h1
              have e1 := Re.num_some h3
              have e2 := Re.num_some h2
              exact ⟨by unfold pRange; rw [h3]; simp only [Option.bind_some, h2]; rfl, by omega⟩)
            have HBt : Hid (badt = true → R0 = none) := Lib.hid (fun h => HP1.out HM.out.1 (HM.out.2.1.fail hlt (by
              unfold pRange
              cases hbf : badf with
              | true =>
                rcases HBf.out hbf with h' | h'
                · cases h'
                · rw [h']; rfl
              | false =>
                rw [(HGf.out hbf).2]
                simp only [Option.bind_some]
                rcases hbad h with h' | h'
                · rw [hbf] at h'; cases h'
                · rw [h']; rfl)))
            have hc7 := HJ12.out.c7
            have hz7 := HJ12.out.fz 7
            have hqs := HJ12.out.qs
            have hown := HJ12.out.own.st
            simp only at hown
            have HOW := Lib.hid hown
            rw [hst] at hc7 hown HOW
            clear hR hg hgood hbad hown HJ11 HR11 HGf HBf
            go_upto_region 16 with (fail)
            go_wp2_with (at_builtin; refine wpList_append_own _ rfl _ _ 27 rfl (jb + 1) 74 i0 _ 2 16 Tryz.underlying27 hi hz0 hz1 hz2 rfl (by decide) (.slice SA k sc) k (cells st) (by rfl) (HOW.out.2.alloc _) ⟨w12.heap.size, 0, none⟩ 1 1 [.int .i64 fr, .int .i64 tv] (by rfl) (by rfl) (World.news_of_block (heap_alloc_new _ _)) (by simp [Value.oneCell']) (by unfold maxLen; omega) (by omega) (by simp; omega) ?_)
            intro v' w13 hown6 hgrow6 _
            obtain ⟨A', c', hv'⟩ := ext_of_own hown6
            subst hv'
            have hk13 : k * 8 ≤ n := hk8'
            have hHN : Hid (JS w (w13.setCell ⟨jb, 7, none⟩ (.slice A' (k + 1) c')) gb jb old t0 t1 t2 t3 t4 sz A' c' (st ++ [(fr, tv)]) none 0 []) := Lib.hid (by
              have h := JS.stash (r := (fr, tv)) HJ12.out ((Below.refl w12.heap.size w12).alloc (Nat.le_refl _) (.cells #[.int .i64 fr, .int .i64 tv] 74)) (SA' := A') (sc' := c') (by rw [hst]; exact hown6) (by rw [hst]; exact hgrow6)
              rw [hst] at h
              exact h)
            have hHR : Hid (Rdg (w13.setCell ⟨jb, 7, none⟩ (.slice A' (k + 1) c')) gb (some ⟨b, off, none⟩) n c b2 l badt) := Lib.hid (rdg_set (rdg_grown (rdg_alloc HR12.out (.cells #[.int .i64 fr, .int .i64 tv] 74)) hgrow6 (fun b hb => by have := (row_in HOW.out.2 (own_in.1 hb)).1; have := HJ12.out.qlt; omega)) ⟨jb, 7, none⟩ _ HJ12.out.qlt)
            have eb : w13.heap[jb]? = w12.heap[jb]? := (hgrow6.block jb (by have := hqs; simp; omega) (fun e => by have := (row_in HOW.out.2 (own_in.1 e.symm)).1; omega)).trans (heap_alloc_old _ _ hqs)
            have c7 : w13.cell? ⟨jb, 7, none⟩ = some (.slice SA st.length sc) := cell_of_row _ _ 7 _ 32 (0, 0) (eb.trans HJ12.out.b2)
            have z7 : w13.frozen? ⟨jb, 7, none⟩ = false := frozen_of_row _ _ 7 _ _ (eb.trans HJ12.out.b2)
            have HMN : Hid (badt = false → bad3 = false ∧ Many (pRange l) N' a3 (k + 1) (st ++ [(fr, tv)]) b2 ∧ a3 + (k + 1) * 8 ≤ b2) := Lib.hid (fun h => ⟨HM.out.1, HM.out.2.1.next hlt (HGt.out h).1, by have := (HGt.out h).2; have := HM.out.2.2; omega⟩)
            clear eb hown6 hgrow6 hc7 hz7 hqs HJ12 HR12 HOW HM HGt
            go_wp2_with fail
            generalize w13.setCell ⟨jb, 7, none⟩ (.slice A' (k + 1) c') = w14 at *
            go_roundw
            case rel => exact ⟨k + 1, b2, c', A', st ++ [(fr, tv)], badt, by go_num, by omega, hb2, by omega, by simp [hst], Lib.hid ⟨hHN.out, hHR.out, HMN.out, HBt.out⟩⟩
            case measure => simp [intOf]; omega
          · by_cases hlt : k < N'
            · have hbt : bad = true := by
                cases bad with
                | true => rfl
                | false => exact absurd ⟨hlt, rfl⟩ hgo
              subst hbt
              have hpos : (0 : Int) < (N' : Int) - (k : Int) := by omega
              clear hgo
              go_wp2_with fail
              go_meet
              exact ⟨a, sc, SA, st, true, ha, Lib.hid ⟨HI.out.1, HI.out.2.1, (fun h => by cases h), fun _ => HI.out.2.2.2 (by trivial)⟩⟩
            · obtain rfl : k = N' := by omega
              clear hgo hlt hkN
              go_wp2_with fail
              go_meet
              exact ⟨a, sc, SA, st, bad, ha, Lib.hid ⟨HI.out.1, HI.out.2.1, fun h => ⟨(HI.out.2.2.1 h).1, (HI.out.2.2.1 h).2.1.done⟩, HI.out.2.2.2⟩⟩
      case rest =>
        obtain ⟨a4, sc, SA, st, bad4, ha4, HI⟩ := hcut
        have HJ11 := Lib.hid HI.out.1
        have HR11 := Lib.hid HI.out.2.1
        have HGD4 : Hid (bad4 = false → num l 4 68 = some (sz, a2) ∧ num l 4 a2 = some ((N' : Int), a3) ∧ many (pRange l) N' a3 = some (st, a4)) := Lib.hid (fun h => by
          obtain ⟨h1, h2⟩ := HI.out.2.2.1 h
          exact ⟨(HGD3.out h1).1, (HGD3.out h1).2, h2⟩)
        have HBD4 := Lib.hid HI.out.2.2.2
        clear HI HJ10 HR10 HGD3 HBD3 HP1
        go_wp2_with fail
        refine (Re.next_all wc gb n c a4 _ l bad4 HR11.out HY.out hn ha4 4 (by omega) (by omega)).mono ?_
        rintro e w5b ⟨M, a5, bad5, rfl, hR, ha5, hv, hgood, hbad, hg⟩
        obtain ⟨M', rfl⟩ : ∃ M' : Nat, M = (M' : Int) := Int.eq_ofNat_of_zero_le hv.1
        have hM4 : (M' : Int) < 4294967296 := by have := hv.2; simpa using this
        have HJ12 := Lib.hid (HJ11.out.up hg)
        have HR12 := Lib.hid hR
        have HPL2 : Hid (bad5 = false → (many (pWave l) M' a5).map (fun ws => ((⟨sz, st, ws.1⟩ : Pln), ws.2)) = R0) := Lib.hid (fun h => by
          obtain ⟨h4, h5⟩ := hgood h
          obtain ⟨g1, g2, g3⟩ := HGD4.out h4
          rw [← HPL.out]; unfold pPlan; rw [g1]
          simp only [Option.bind_some, g2, Int.toNat_natCast, g3, h5])
        have HBD5 : Hid (bad5 = true → R0 = none) := Lib.hid (fun h => by
          cases hb4 : bad4 with
          | true => exact HBD4.out hb4
          | false =>
            rcases hbad h with h' | h'
            · rw [hb4] at h'; cases h'
            · obtain ⟨g1, g2, g3⟩ := HGD4.out hb4
              rw [← HPL.out]; unfold pPlan; rw [g1]
              simp only [Option.bind_some, g2, Int.toNat_natCast, g3]; rw [h']; rfl)
        have HP2 : Hid (bad5 = false → many (pWave l) M' a5 = none → R0 = none) := Lib.hid (fun h hm => by rw [← HPL2.out h, hm]; rfl)
        clear hv hR hg hgood hbad HJ11 HR11 HGD4 HBD4
        go_upto_block 2 with (fail)
        go_cut [11, 12, 13, 14, 15, 16, 17, 18] (fun _ _ _ _ _ _ _ _ wx => ∃ (a wq : Nat) (WA : Option Addr) (Q : List WvV) (bad : Bool), a ≤ n ∧ Hid (JS w wx gb jb old t0 t1 t2 t3 t4 sz SA sc st WA wq Q ∧ Rdg wx gb (some ⟨b, off, none⟩) n c a l bad ∧ (bad = false → bad5 = false ∧ many (pWave l) M' a5 = some (Q.map WvV.wv, a)) ∧ (bad = true → R0 = none)))
        case first =>
          go_wp2_with fail
          go_loopw [11] (fun i wr => ∃ (k a wq : Nat) (WA : Option Addr) (Q : List WvV) (bad : Bool), i = .int .i64 ((M' : Int) - k) ∧ k ≤ M' ∧ a ≤ n ∧ k ≤ n + 1 ∧ Q.length = k ∧ Hid (JS w wr gb jb old t0 t1 t2 t3 t4 sz SA sc st WA wq Q ∧ Rdg wr gb (some ⟨b, off, none⟩) n c a l bad ∧ (bad = false → bad5 = false ∧ Many (pWave l) M' a5 k (Q.map WvV.wv) a ∧ a5 + k ≤ a) ∧ (bad = true → R0 = none))) (fun i _ => (intOf i).toNat)
          case atStart => exact ⟨0, a5, 0, none, [], bad5, by simp, Nat.zero_le _, ha5, by omega, rfl, Lib.hid ⟨HJ12.out, HR12.out, fun h => ⟨h, Many.start _ _ _, by omega⟩, HBD5.out⟩⟩
          case round =>
            clear HJ12 HR12
            obtain ⟨k, a, wq, WA, Q, bad, rfl, hkM, ha, hk1, hQk, HI⟩ := hrel
            have cb := HI.out.2.1.c2
            by_cases hgo : k < M' ∧ bad = false
            · obtain ⟨hlt, rfl⟩ := hgo
              have hpos : (0 : Int) < (M' : Int) - (k : Int) := by omega
              have HM := Lib.hid (HI.out.2.2.1 rfl)
              have HJr := Lib.hid HI.out.1
              have HRr := Lib.hid HI.out.2.1
              have hkn : k ≤ n := by have := HM.out.2.2; omega
              have HPW : Hid (pWave l a = none → R0 = none) := Lib.hid (fun hm => HP2.out HM.out.1 (HM.out.2.1.fail hlt hm))
              have HQK := Lib.hid hQk
              clear HI hQk
              go_wp2_with fail
              refine (Re.next_all wr gb n c a _ l false HRr.out HY.out hn ha 1 (by omega) (by omega)).mono ?_
              rintro e w6 ⟨K, a6, bad6, rfl, hR, ha6, hv, hgood, hbad, hg⟩
              obtain ⟨K', rfl⟩ : ∃ K' : Nat, K = (K' : Int) := Int.eq_ofNat_of_zero_le hv.1
              have hK4 : (K' : Int) < 256 := by have := hv.2; simpa using this
              have HJ6 := Lib.hid (HJr.out.up hg)
              have HR6 := Lib.hid hR
              have HWE : Hid (bad6 = false → pWave l a = many (pStep l) K' a6) := Lib.hid (fun h => by unfold pWave; rw [(hgood h).2]; simp only [Option.bind_some, Int.toNat_natCast])
              have HBD6 : Hid (bad6 = true → R0 = none) := Lib.hid (fun h => by
                rcases hbad h with h' | h'
                · cases h'
                · exact HPW.out (by unfold pWave; rw [h']; rfl))
              clear hv hR hg hgood hbad HJr HRr cb
              go_upto_block 4 with (fail)
              go_cut [12, 13, 14, 15, 16, 17, 18] (fun v _ _ _ _ _ _ wx => ∃ (j a c5 : Nat) (A5 : Option Addr) (T : List StV) (bad : Bool), v = .slice A5 j c5 ∧ T.length = j ∧ j ≤ K' ∧ a ≤ n ∧ Hid (WS w6 wx gb A5 c5 T ∧ Rdg wx gb (some ⟨b, off, none⟩) n c a l bad ∧ (bad = false → bad6 = false ∧ many (pStep l) K' a6 = some (T.map StV.st, a)) ∧ (bad = true → R0 = none)))
              case first =>
                go_wp2_with fail
                go_loopw [12, 13] (fun v i wx => ∃ (j a c5 : Nat) (A5 : Option Addr) (T : List StV) (bad : Bool), v = .slice A5 j c5 ∧ i = .int .i64 ((K' : Int) - j) ∧ j ≤ K' ∧ a ≤ n ∧ T.length = j ∧ Hid (WS w6 wx gb A5 c5 T ∧ Rdg wx gb (some ⟨b, off, none⟩) n c a l bad ∧ (bad = false → bad6 = false ∧ Many (pStep l) K' a6 j (T.map StV.st) a) ∧ (bad = true → R0 = none))) (fun _ i _ => (intOf i).toNat)
                case atStart => exact ⟨0, a6, 0, none, [], bad6, rfl, by simp, Nat.zero_le _, ha6, rfl, Lib.hid ⟨WS.start _ _ (Nat.lt_trans HJ6.out.qlt HJ6.out.qs), HR6.out, fun h => ⟨h, Many.start _ _ _⟩, HBD6.out⟩⟩
                case round =>
                  clear HR6
                  obtain ⟨j, a', c5, A5, T, bad, rfl, rfl, hjK, haa, hTj, HJ⟩ := hrel
                  have cb := HJ.out.2.1.c2
                  have HTJ := Lib.hid hTj
                  clear hTj
                  by_cases hgo2 : j < K' ∧ bad = false
                  · obtain ⟨hlj, rfl⟩ := hgo2
                    have hposj : (0 : Int) < (K' : Int) - (j : Int) := by omega
                    have HMJ := Lib.hid (HJ.out.2.2.1 rfl)
                    have HPT : Hid (pStep l a' = none → R0 = none) := Lib.hid (fun hm => HPW.out ((HWE.out HMJ.out.1).trans (HMJ.out.2.fail hlj hm)))
                    have HWSr := Lib.hid HJ.out.1
                    have HRr2 := Lib.hid HJ.out.2.1
                    clear HJ
                    go_wp2_with fail
                    refine (Re.next_all wr gb n c a' _ l false HRr2.out HY.out hn haa 4 (by omega) (by omega)).mono ?_
                    rintro e w7 ⟨blk, b1, bad7, rfl, hR, hb1, hv, hgood, hbad, hg⟩
                    have HWS7 := Lib.hid (HWSr.out.up hg)
                    have hg7 : gb < w7.heap.size := Nat.lt_of_lt_of_le HWS7.out.rl HWS7.out.gr.size
                    have HSS := Lib.hid (SS.start w7 gb blk hg7)
                    have HR7 := Lib.hid (rdg_alloc hR (.cells #[.int .i64 blk, .slice none 0 0] 78))
                    have HV1 : Hid (bad7 = false → num l 4 a' = some (blk, b1)) := Lib.hid (fun h => (hgood h).2)
                    have HBD7 : Hid (bad7 = true → R0 = none) := Lib.hid (fun h => by
                      rcases hbad h with h' | h'
                      · cases h'
                      · exact HPT.out (by unfold pStep; rw [h']; rfl))
                    clear hv hR hg hgood hbad HWSr HRr2 cb
                    go_upto_region 25 with (fail)
                    generalize w7.alloc (.cells #[.int .i64 blk, .slice none 0 0] 78) = w8 at *
                    go_wp2_with fail
                    refine (Re.next_all w8 gb n c b1 _ l bad7 HR7.out HY.out hn hb1 1 (by omega) (by omega)).mono ?_
                    rintro e w9 ⟨P, a8, bad8, rfl, hR, ha8, hv, hgood, hbad, hg⟩
                    obtain ⟨P', rfl⟩ : ∃ P' : Nat, P = (P' : Int) := Int.eq_ofNat_of_zero_le hv.1
                    have hP4 : (P' : Int) < 256 := by have := hv.2; simpa using this
                    have HTE : Hid (bad8 = false → pStep l a' = (many (pPart l) P' a8).map fun y => ((blk, y.1), y.2)) := Lib.hid (fun h => by unfold pStep; rw [HV1.out (hgood h).1]; simp only [Option.bind_some, (hgood h).2, Int.toNat_natCast])
                    have HBD8 : Hid (bad8 = true → R0 = none) := Lib.hid (fun h => by
                      cases hb7 : bad7 with
                      | true => exact HBD7.out hb7
                      | false =>
                        rcases hbad h with h' | h'
                        · rw [hb7] at h'; cases h'
                        · exact HPT.out (by unfold pStep; rw [HV1.out hb7]; simp only [Option.bind_some]; rw [h']; rfl))
                    have HSS9 := Lib.hid (HSS.out.up hg)
                    have HR9 := Lib.hid hR
                    clear hv hR hg hgood hbad HSS HR7 HBD7
                    go_upto_block 6 with (fail)
                    go_cut [15, 16, 17, 18] (fun _ _ _ _ wx => ∃ (a pc : Nat) (PA : Option Addr) (parts : List S) (bad : Bool), a ≤ n ∧ Hid (SS w7 wx gb blk PA pc parts ∧ Rdg wx gb (some ⟨b, off, none⟩) n c a l bad ∧ (bad = false → bad8 = false ∧ many (pPart l) P' a8 = some (parts, a)) ∧ (bad = true → R0 = none)))
                    case first =>
                      go_wp2_with fail
                      go_loopw [15] (fun i wx => ∃ (q a pc : Nat) (PA : Option Addr) (parts : List S) (bad : Bool), i = .int .i64 ((P' : Int) - q) ∧ q ≤ P' ∧ a ≤ n ∧ parts.length = q ∧ Hid (SS w7 wx gb blk PA pc parts ∧ Rdg wx gb (some ⟨b, off, none⟩) n c a l bad ∧ (bad = false → bad8 = false ∧ Many (pPart l) P' a8 q parts a) ∧ (bad = true → R0 = none))) (fun i _ => (intOf i).toNat)
                      case atStart => exact ⟨0, a8, 0, none, [], bad8, by simp, Nat.zero_le _, ha8, rfl, Lib.hid ⟨HSS9.out, HR9.out, fun h => ⟨h, Many.start _ _ _⟩, HBD8.out⟩⟩
                      case round =>
                        clear HSS9 HR9
                        obtain ⟨q, a'', pc, PA, parts, bad, rfl, hqP, haq, hpl, HK⟩ := hrel
                        have cb := HK.out.2.1.c2
                        by_cases hgo3 : q < P' ∧ bad = false
                        · obtain ⟨hlq, rfl⟩ := hgo3
                          have hposq : (0 : Int) < (P' : Int) - (q : Int) := by omega
                          have HM10 := Lib.hid (HK.out.2.2.1 rfl)
                          have HPP : Hid (pPart l a'' = none → R0 = none) := Lib.hid (fun hm => HPT.out ((HTE.out HM10.out.1).trans (by rw [HM10.out.2.fail hlq hm]; rfl)))
                          have HSSr := Lib.hid HK.out.1
                          have HRr3 := Lib.hid HK.out.2.1
                          clear HK
                          go_wp2_with fail
                          refine (Re.next_all wr gb n c a'' _ l false HRr3.out HY.out hn haq 1 (by omega) (by omega)).mono ?_
                          rintro e w10 ⟨src, d1, bada, rfl, hR, hd1, hv, hgood, hbad, hg⟩
                          have HSS10 := Lib.hid (HSSr.out.up hg)
                          have HR10 := Lib.hid hR
                          have HV1' : Hid (bada = false → num l 1 a'' = some (src, d1)) := Lib.hid (fun h => (hgood h).2)
                          have HBDa : Hid (bada = true → R0 = none) := Lib.hid (fun h => by
                            rcases hbad h with h' | h'
                            · cases h'
                            · exact HPP.out (by unfold pPart; rw [h']; rfl))
                          clear hv hR hg hgood hbad HSSr HRr3 cb
                          go_wp2_with fail
                          refine (Re.next_all w10 gb n c d1 _ l bada HR10.out HY.out hn hd1 4 (by omega) (by omega)).mono ?_
                          rintro e w11 ⟨at0, d2, badb, rfl, hR, hd2, hv, hgood, hbad, hg⟩
                          have HSS11 := Lib.hid (HSS10.out.up hg)
                          have HR11 := Lib.hid hR
                          have HV2' : Hid (badb = false → num l 1 a'' = some (src, d1) ∧ num l 4 d1 = some (at0, d2)) := Lib.hid (fun h => ⟨HV1'.out (hgood h).1, (hgood h).2⟩)
                          have HBDb : Hid (badb = true → R0 = none) := Lib.hid (fun h => by
                            cases hba : bada with
                            | true => exact HBDa.out hba
                            | false =>
                              rcases hbad h with h' | h'
                              · rw [hba] at h'; cases h'
                              · exact HPP.out (by unfold pPart; rw [HV1'.out hba]; simp only [Option.bind_some]; rw [h']; rfl))
                          clear hv hR hg hgood hbad HSS10 HR10
                          go_wp2_with fail
                          refine (Re.next_all w11 gb n c d2 _ l badb HR11.out HY.out hn hd2 1 (by omega) (by omega)).mono ?_
                          rintro e w12 ⟨len, d3, badc, rfl, hR, hd3, hv, hgood, hbad, hg⟩
                          have HSS12 := Lib.hid (HSS11.out.up hg)
                          have HR12 := Lib.hid hR
                          have HV3' : Hid (badc = false → pPart l a'' = some (⟨src, at0, len⟩, d3)) := Lib.hid (fun h => by
                            obtain ⟨h1, h2⟩ := HV2'.out (hgood h).1
                            unfold pPart; rw [h1]; simp only [Option.bind_some, h2, (hgood h).2]; rfl)
                          have HBDc : Hid (badc = true → R0 = none) := Lib.hid (fun h => by
                            cases hbb : badb with
                            | true => exact HBDb.out hbb
                            | false =>
                              rcases hbad h with h' | h'
                              · rw [hbb] at h'; cases h'
                              · obtain ⟨h1, h2⟩ := HV2'.out hbb
                                exact HPP.out (by unfold pPart; rw [h1]; simp only [Option.bind_some, h2]; rw [h']; rfl))
                          have hc1 := HSS12.out.c1
                          have hqs := HSS12.out.qs
                          have hz1' := frozen_of_row _ _ 1 _ _ HSS12.out.b0
                          have hown := HSS12.out.own
                          have HPL' := Lib.hid hpl
                          rw [hpl] at hc1 hown
                          have HOW := Lib.hid hown
                          clear hv hR hg hgood hbad HSS11 HR11 hown hpl
                          go_upto_region 31 with (fail)
                          go_wp2_with (at_builtin; refine wpList_append_own _ rfl _ _ 76 rfl (w7.heap.size + 1) 80 j0 _ 3 24 Tryz.underlying76 ji jz0 jz1 jz2 rfl (by decide) (.slice PA q pc) q (Sc.cells parts) (by rfl) (HOW.out.2.alloc _) ⟨w12.heap.size, 0, none⟩ 1 1 [.int .i64 src, .int .i64 at0, .int .i64 len] (by rfl) (by rfl) (World.news_of_block (heap_alloc_new _ _)) (by simp [Value.oneCell']) (by unfold maxLen; omega) (by omega) (by simp; omega) ?_)
                          intro v' w13 hown6 hgrow6 _
                          obtain ⟨A', c', hv'⟩ := Sc.ext_of_own hown6
                          subst hv'
                          have hSN : Hid (SS w7 (w13.setCell ⟨w7.heap.size, 1, none⟩ (.slice A' (q + 1) c')) gb blk A' c' (parts ++ [⟨src, at0, len⟩])) := Lib.hid (by
                            have h := SS.push (x := ⟨src, at0, len⟩) HSS12.out ((Below.refl w12.heap.size w12).alloc (Nat.le_refl _) (.cells #[.int .i64 src, .int .i64 at0, .int .i64 len] 80)) (A' := A') (c' := c') (by rw [HPL'.out]; exact hown6) (by rw [HPL'.out]; exact hgrow6)
                            rw [HPL'.out] at h
                            exact h)
                          have hRN : Hid (Rdg (w13.setCell ⟨w7.heap.size, 1, none⟩ (.slice A' (q + 1) c')) gb (some ⟨b, off, none⟩) n c d3 l badc) := Lib.hid (rdg_set (rdg_grown (rdg_alloc HR12.out (.cells #[.int .i64 src, .int .i64 at0, .int .i64 len] 80)) hgrow6 (fun b hb => by have := (row_in HOW.out.2 (own_in.1 hb)).1; have := HSS12.out.rl; omega)) ⟨w7.heap.size, 1, none⟩ _ HSS12.out.rl)
                          have eb : w13.heap[w7.heap.size]? = w12.heap[w7.heap.size]? := (hgrow6.block w7.heap.size (by have := hqs; simp; omega) (fun e => by have := (row_in HOW.out.2 (own_in.1 e.symm)).1; omega)).trans (heap_alloc_old _ _ hqs)
                          have c7 := cell_of_row w13 _ 1 _ 78 (0, 0) (eb.trans HSS12.out.b0)
                          have z7 : w13.frozen? ⟨w7.heap.size, 1, none⟩ = false := frozen_of_row _ _ 1 _ _ (eb.trans HSS12.out.b0)
                          have HMN : Hid (badc = false → bad8 = false ∧ Many (pPart l) P' a8 (q + 1) (parts ++ [⟨src, at0, len⟩]) d3) := Lib.hid (fun h => ⟨HM10.out.1, HM10.out.2.next hlq (HV3'.out h)⟩)
                          clear eb hown6 hgrow6 hc1 hz1' hqs HSS12 HR12 HOW HM10
                          go_wp2_with fail
                          generalize w13.setCell ⟨w7.heap.size, 1, none⟩ (.slice A' (q + 1) c') = w14 at *
                          go_roundw
                          case rel => exact ⟨q + 1, d3, c', A', parts ++ [⟨src, at0, len⟩], badc, by go_num, by omega, hd3, by simp [HPL'.out], Lib.hid ⟨hSN.out, hRN.out, HMN.out, HBDc.out⟩⟩
                          case measure => simp [intOf]; omega
                        · by_cases hlq : q < P'
                          · have hbt : bad = true := by
                              cases bad with
                              | true => rfl
                              | false => exact absurd ⟨hlq, rfl⟩ hgo3
                            subst hbt
                            have hpos : (0 : Int) < (P' : Int) - (q : Int) := by omega
                            clear hgo3
                            go_wp2_with fail
                            go_meet
                            exact ⟨a'', pc, PA, parts, true, haq, Lib.hid ⟨HK.out.1, HK.out.2.1, (fun h => by cases h), fun _ => HK.out.2.2.2 (by trivial)⟩⟩
                          · obtain rfl : q = P' := by omega
                            clear hgo3 hlq hqP
                            go_wp2_with fail
                            go_meet
                            exact ⟨a'', pc, PA, parts, bad, haq, Lib.hid ⟨HK.out.1, HK.out.2.1, fun h => ⟨(HK.out.2.2.1 h).1, (HK.out.2.2.1 h).2.done⟩, HK.out.2.2.2⟩⟩
                    case rest =>
                      obtain ⟨a9, pc, PA, parts, bad9, ha9, HK⟩ := hcut
                      have HSSz := Lib.hid HK.out.1
                      have HRz := Lib.hid HK.out.2.1
                      have HWSz := Lib.hid (HWS7.out.up HK.out.1.gr)
                      have HGD9 : Hid (bad9 = false → bad6 = false ∧ pStep l a' = some ((blk, parts), a9)) := Lib.hid (fun h => ⟨HMJ.out.1, by rw [HTE.out (HK.out.2.2.1 h).1, (HK.out.2.2.1 h).2]; rfl⟩)
                      have HBD9 := Lib.hid HK.out.2.2.2
                      have s0 := HSSz.out.c0
                      have s1 := HSSz.out.c1
                      have hpo : Sc.Own wc w6.heap.size PA parts.length pc parts := Sc.Own.mono HSSz.out.own (by have := HWS7.out.gr.size; omega)
                      have HPO := Lib.hid hpo
                      have hwsr := HWSz.out.row
                      rw [HTJ.out] at hwsr
                      have HWR := Lib.hid hwsr
                      have hjj : j ≤ 1073741824 := by omega
                      have hgs : w6.heap.size ≤ wc.heap.size := HWSz.out.gr.size
                      clear HK hpo hwsr HSS9 HR9
                      go_wp2_with (at_builtin; refine wpList_append_own _ rfl _ _ 75 rfl w6.heap.size 78 q0 _ 2 32 Tryz.underlying75 qi qz0 qz1 qz2 rfl (by decide) (.slice A5 j c5) j (stCells T) (by rfl) (HWR.out.2.alloc _) ⟨wc.heap.size, 0, none⟩ 1 1 [.int .i64 blk, .slice PA parts.length pc] (by rfl) (by rfl) (World.news_of_block (heap_alloc_new _ _)) (by simp [Value.oneCell']) (by unfold maxLen; omega) (by omega) (by simp; omega) ?_)
                      intro v' w12 hown6 hgrow6 _
                      have hal : Below wc.heap.size wc (wc.alloc (.cells #[.int .i64 blk, .slice PA parts.length pc] 78)) := (Below.refl _ _).alloc (Nat.le_refl _) _
                      obtain ⟨A6, c6, hv', hws⟩ := WS.push (s := ⟨blk, PA, pc, parts⟩) HWSz.out HPO.out hal (v' := v') (by rw [stCells_one, HTJ.out]; exact hown6) (by rw [HTJ.out]; exact hgrow6)
                      rw [HTJ.out] at hv'
                      subst hv'
                      have hrn := rdg_grown (rdg_alloc HRz.out (.cells #[.int .i64 blk, .slice PA parts.length pc] 78)) hgrow6 (fun b hb => by have := (HWR.out.ty (own_in.1 hb)).1; have := HWSz.out.rl; omega)
                      have HWN := Lib.hid hws
                      have HRN := Lib.hid hrn
                      have HMN : Hid (bad9 = false → bad6 = false ∧ Many (pStep l) K' a6 (j + 1) ((T ++ [(⟨blk, PA, pc, parts⟩ : StV)]).map StV.st) a9) := Lib.hid (fun h => ⟨(HGD9.out h).1, by rw [List.map_append]; exact HMJ.out.2.next hlj (HGD9.out h).2⟩)
                      clear hown6 hgrow6 hal hws hrn s0 s1
                      go_wp2_with fail
                      go_roundw
                      case rel => exact ⟨j + 1, a9, c6, A6, T ++ [⟨blk, PA, pc, parts⟩], bad9, rfl, by go_num, by omega, ha9, by rw [List.length_append, HTJ.out]; rfl, Lib.hid ⟨HWN.out, HRN.out, HMN.out, HBD9.out⟩⟩
                      case measure => simp [intOf]; omega
                  · by_cases hlj : j < K'
                    · have hbt : bad = true := by
                        cases bad with
                        | true => rfl
                        | false => exact absurd ⟨hlj, rfl⟩ hgo2
                      subst hbt
                      have hpos : (0 : Int) < (K' : Int) - (j : Int) := by omega
                      clear hgo2
                      go_wp2_with fail
                      go_meet
                      exact ⟨j, a', c5, A5, T, true, rfl, HTJ.out, hjK, haa, Lib.hid ⟨HJ.out.1, HJ.out.2.1, (fun h => by cases h), fun _ => HJ.out.2.2.2 (by trivial)⟩⟩
                    · obtain rfl : j = K' := by omega
                      clear hgo2 hlj hjK
                      go_wp2_with fail
                      go_meet
                      exact ⟨j, a', c5, A5, T, bad, rfl, HTJ.out, Nat.le_refl _, haa, Lib.hid ⟨HJ.out.1, HJ.out.2.1, fun h => ⟨(HJ.out.2.2.1 h).1, (HJ.out.2.2.1 h).2.done⟩, HJ.out.2.2.2⟩⟩
              case rest =>
                obtain ⟨j, a7, c5, A5, T, bad7, rfl, hTj, hjK, ha7, HJ⟩ := hcut
                have HJx := Lib.hid (HJ6.out.up HJ.out.1.gr)
                have HTJ := Lib.hid hTj
                have HWSe := Lib.hid HJ.out.1
                have HRe := Lib.hid HJ.out.2.1
                have HGD7 : Hid (bad7 = false → bad5 = false ∧ pWave l a = some (T.map StV.st, a7)) := Lib.hid (fun h => ⟨HM.out.1, (HWE.out (HJ.out.2.2.1 h).1).trans (HJ.out.2.2.1 h).2⟩)
                have HBD7 := Lib.hid HJ.out.2.2.2
                have hwv := HJx.out.own.wv
                simp only [HQK.out] at hwv
                have HWV := Lib.hid hwv
                have g2 := HJx.out.c8
                rw [HQK.out] at g2
                have hqs := HJx.out.qs
                have hkk : k ≤ 1073741824 := by omega
                have hg6 : w6.heap.size ≤ wc.heap.size := HWSe.out.gr.size
                have hq6 := HJ6.out.qs
                have hal : Below wc.heap.size wc (wc.alloc (.cells #[.slice A5 j c5] 75)) := (Below.refl _ _).alloc (Nat.le_refl _) _
                have HAL := Lib.hid hal
                clear HJ hwv hTj hal HR6
                go_wp2_with (at_builtin; refine wpList_append_own _ rfl _ _ 28 rfl (jb + 1) 75 k0 _ 1 24 Tryz.underlying28 ki kz0 kz1 kz2 rfl (by decide) (.slice WA k wq) k (wvCells Q) (by rfl) (HWV.out.2.alloc _) ⟨wc.heap.size, 0, none⟩ 1 1 [.slice A5 j c5] (by rfl) (by rfl) (World.news_of_block (heap_alloc_new _ _)) (by simp [Value.oneCell']) (by unfold maxLen; omega) (by omega) (by simp; omega) ?_)
                intro v' w14 hown6 hgrow6 _
                obtain ⟨WA2, wc2, rfl⟩ : ∃ A cap, v' = .slice A (k + 1) cap := by
                  rcases hown6.2 with ⟨hv, hn⟩ | ⟨g, cap', cur, hv, _⟩
                  · cases hn
                  · exact ⟨_, _, hv⟩
                have hov : OwnV wc (jb + 1) ⟨A5, c5, T⟩ := OwnV.mono (base := w6.heap.size) ⟨HWSe.out.row, HWSe.out.parts⟩ (by omega)
                have hps := JS.wave HJx.out HAL.out (v := ⟨A5, c5, T⟩) hov (fun u hu b hb hb2 => by
                  have h1 := (HWSe.out.row.ty hb).1
                  have h2 := ((HJ6.out.own.ws u hu).row.ty hb2).2.1
                  omega) (WA' := WA2) (wc' := wc2) (by
                  have e : wvCells [(⟨A5, c5, T⟩ : WvV)] = [.slice A5 j c5] := by simp [wvCells, HTJ.out]
                  rw [e]
                  simp only [HQK.out]
                  exact hown6) (by simp only [HQK.out]; exact hgrow6)
                rw [HQK.out] at hps
                have hrn := rdg_set (rdg_grown (rdg_alloc HRe.out (.cells #[.slice A5 j c5] 75)) hgrow6 (fun b hb => by have := (HWV.out.ty (own_in.1 hb)).1; have := HJx.out.qlt; omega)) ⟨jb, 8, none⟩ (.slice WA2 (k + 1) wc2) HJx.out.qlt
                have HPN := Lib.hid hps; have HRN := Lib.hid hrn
                have HMN : Hid (bad7 = false → bad5 = false ∧ Many (pWave l) M' a5 (k + 1) ((Q ++ [(⟨A5, c5, T⟩ : WvV)]).map WvV.wv) a7 ∧ a5 + (k + 1) ≤ a7) := Lib.hid (fun h => ⟨(HGD7.out h).1, by rw [List.map_append]; exact HM.out.2.1.next hlt (HGD7.out h).2, by have := Re.pWave_fwd l a _ _ (by rw [HL.out]; exact ha) (HGD7.out h).2; have := HM.out.2.2; omega⟩)
                have hin6 : ∀ b, (Value.slice WA k wq).ownBlock = some b → jb + 1 ≤ b := fun b hb => (HWV.out.ty (own_in.1 hb)).1
                have g6 : w14.cell? ⟨jb, 8, none⟩ = some (.slice WA k wq) := (hgrow6.cell_far ⟨jb, 8, none⟩ (by simp; omega) (fun e => by have := hin6 jb e.symm; omega)).trans ((World.cell?_alloc_lt _ _ _ hqs).trans g2)
                have f6 : w14.frozen? ⟨jb, 8, none⟩ = false := (hgrow6.frozen_far ⟨jb, 8, none⟩ (by simp; omega) (fun e => by have := hin6 jb e.symm; omega)).trans ((HAL.out.frozen (p := ⟨jb, 8, none⟩) hqs).trans (HJx.out.fz 8))
                clear hown6 hgrow6 hps hrn hov hin6 g2
                go_wp2_with fail
                clear g6 f6
                generalize w14.setCell ⟨jb, 8, none⟩ (.slice WA2 (k + 1) wc2) = w15 at *
                go_roundw
                case rel => exact ⟨k + 1, a7, wc2, WA2, Q ++ [⟨A5, c5, T⟩], bad7, by go_num, by omega, ha7, by omega, by simp [HQK.out], Lib.hid ⟨HPN.out, HRN.out, HMN.out, HBD7.out⟩⟩
                case measure => simp [intOf]; omega
            · by_cases hlt : k < M'
              · have hbt : bad = true := by
                  cases bad with
                  | true => rfl
                  | false => exact absurd ⟨hlt, rfl⟩ hgo
                subst hbt
                have hpos : (0 : Int) < (M' : Int) - (k : Int) := by omega
                clear hgo
                go_wp2_with fail
                go_meet
                exact ⟨a, wq, WA, Q, true, ha, Lib.hid ⟨HI.out.1, HI.out.2.1, (fun h => by cases h), fun _ => HI.out.2.2.2 (by trivial)⟩⟩
              · obtain rfl : k = M' := by omega
                clear hgo hlt hkM
                go_wp2_with fail
                go_meet
                exact ⟨a, wq, WA, Q, bad, ha, Lib.hid ⟨HI.out.1, HI.out.2.1, fun h => ⟨(HI.out.2.2.1 h).1, (HI.out.2.2.1 h).2.1.done⟩, HI.out.2.2.2⟩⟩
        case rest =>
          obtain ⟨a9, wq, WA, Q, bad9, ha9, HI⟩ := hcut
          have HJ20 := Lib.hid HI.out.1
          have HR20 := Lib.hid HI.out.2.1
          have HN9 : Hid (bad9 = false → R0 = some (⟨sz, st, Q.map WvV.wv⟩, a9)) := Lib.hid (fun h => by
            obtain ⟨h1, h2⟩ := HI.out.2.2.1 h
            rw [← HPL2.out h1, h2]; rfl)
          have HB9 := Lib.hid HI.out.2.2.2
          have cb := HR20.out.c2
          clear HI HJ12 HR12 HBD5 HPL2 HP2
          cases bad9 with
          | true =>
            have HFAIL : Hid (∀ j, pJour l = some j → ¬ MayJ j) := Lib.hid (fun j hj => by
              rw [HPJ.out, HB9.out (by trivial)] at hj
              cases hj)
            have HGR := Lib.hid HJ20.out.gr
            have e0 : wc.cell? ⟨w.heap.size, 0, none⟩ = some (.int .i64 0) := cell_of_row _ _ 0 _ 32 (0, 0) HJ20.out.b0
            have e1 : wc.cell? ⟨w.heap.size, 1, none⟩ = some (.int .i64 0) := cell_of_row _ _ 1 _ 32 (0, 0) HJ20.out.b0
            have e2 : wc.cell? ⟨w.heap.size, 2, none⟩ = some (.int .i64 0) := cell_of_row _ _ 2 _ 32 (0, 0) HJ20.out.b0
            have e3 : wc.cell? ⟨w.heap.size, 3, none⟩ = some (.int .i64 0) := cell_of_row _ _ 3 _ 32 (0, 0) HJ20.out.b0
            have e4 : wc.cell? ⟨w.heap.size, 4, none⟩ = some (.int .i64 0) := cell_of_row _ _ 4 _ 32 (0, 0) HJ20.out.b0
            have e5 : wc.cell? ⟨w.heap.size, 5, none⟩ = some (.int .i64 0) := cell_of_row _ _ 5 _ 32 (0, 0) HJ20.out.b0
            have e6 : wc.cell? ⟨w.heap.size, 6, none⟩ = some (.int .i64 0) := cell_of_row _ _ 6 _ 32 (0, 0) HJ20.out.b0
            have e7 : wc.cell? ⟨w.heap.size, 7, none⟩ = some (.slice none 0 0) := cell_of_row _ _ 7 _ 32 (0, 0) HJ20.out.b0
            have e8 : wc.cell? ⟨w.heap.size, 8, none⟩ = some (.slice none 0 0) := cell_of_row _ _ 8 _ 32 (0, 0) HJ20.out.b0
            have e9 : wc.cell? ⟨w.heap.size, 9, none⟩ = some (.slice none 0 0) := cell_of_row _ _ 9 _ 32 (0, 0) HJ20.out.b0
            have f0 : wc.frozen? ⟨w.heap.size, 0, none⟩ = false := frozen_of_row _ _ 0 _ _ HJ20.out.b0
            have f1 : wc.frozen? ⟨w.heap.size, 1, none⟩ = false := frozen_of_row _ _ 1 _ _ HJ20.out.b0
            have f2 : wc.frozen? ⟨w.heap.size, 2, none⟩ = false := frozen_of_row _ _ 2 _ _ HJ20.out.b0
            have f3 : wc.frozen? ⟨w.heap.size, 3, none⟩ = false := frozen_of_row _ _ 3 _ _ HJ20.out.b0
            have f4 : wc.frozen? ⟨w.heap.size, 4, none⟩ = false := frozen_of_row _ _ 4 _ _ HJ20.out.b0
            have f5 : wc.frozen? ⟨w.heap.size, 5, none⟩ = false := frozen_of_row _ _ 5 _ _ HJ20.out.b0
            have f6 : wc.frozen? ⟨w.heap.size, 6, none⟩ = false := frozen_of_row _ _ 6 _ _ HJ20.out.b0
            have f7 : wc.frozen? ⟨w.heap.size, 7, none⟩ = false := frozen_of_row _ _ 7 _ _ HJ20.out.b0
            have f8 : wc.frozen? ⟨w.heap.size, 8, none⟩ = false := frozen_of_row _ _ 8 _ _ HJ20.out.b0
            have f9 : wc.frozen? ⟨w.heap.size, 9, none⟩ = false := frozen_of_row _ _ 9 _ _ HJ20.out.b0
            go_wp2_with fail
            refine bodyPost_ret (v := .tuple #[.agg #[.int .i64 0, .int .i64 0, .int .i64 0, .int .i64 0, .int .i64 0, .int .i64 0, .int .i64 0, .slice none 0 0, .slice none 0 0, .slice none 0 0], .int .i64 4]) (by simp [results, Tryz.results8, go_sem, e0, e1, e2, e3, e4, e5, e6, e7, e8, e9]) rfl ?_
            exact ⟨.inr ⟨HFAIL.out, rfl⟩, (((((((((HGR.out.setCell (Nat.le_refl _) _).setCell (Nat.le_refl _) _).setCell (Nat.le_refl _) _).setCell (Nat.le_refl _) _).setCell (Nat.le_refl _) _).setCell (Nat.le_refl _) _).setCell (Nat.le_refl _) _).setCell (Nat.le_refl _) _).setCell (Nat.le_refl _) _).setCell (Nat.le_refl _) _⟩
          | false =>
            have HN10 := Lib.hid (HN9.out rfl)
            have hca := HR20.out.c1
            have hap : RdB wc wc.heap.size (some ⟨b, off + a9, none⟩) (l.drop a9) := by
              have h := HR20.out.rd.piece a9 n
              rw [List.take_of_length_le (by rw [List.length_drop, HL.out]; omega)] at h
              exact h.more (Nat.le_of_lt HR20.out.lt)
            have HAP := Lib.hid hap
            have HLD : Hid ((l.drop a9).length = n - a9) := Lib.hid (by rw [List.length_drop, HL.out])
            have j9 : wc.cell? ⟨jb, 9, none⟩ = some (.slice none 0 0) := cell_of_row _ _ 9 _ 32 (0, 0) HJ20.out.b2
            have z9 : wc.frozen? ⟨jb, 9, none⟩ = false := HJ20.out.fz 9
            have i0 : (0 : Int) ≤ (a9 : Int) := by omega
            have i1 : (a9 : Int) ≤ (n : Int) := by omega
            have i2 : (n : Int) ≤ (c : Int) := by omega
            clear hap HN9 HB9 hcl
            by_cases hne : c = a9
            · have hna : n = a9 := by omega
              have HAP := Lib.hid (Re.RdB.nil wc wc.heap.size (some ⟨b, off, none⟩))
              have HNIL : Hid (l.drop a9 = []) := Lib.hid (List.drop_eq_nil_of_le (by rw [HL.out]; omega))
              rw [← HNIL.out] at HAP
              have HLD : Hid ((l.drop a9).length = 0) := Lib.hid (by rw [HNIL.out]; rfl)
              go_wp2_with fail
              refine (Re.Copy_any _ _ _ wc (l.drop a9) HLD.out HAP.out (by omega)).mono ?_
              rintro e w21 ⟨⟨TA, tc, rfl, hown⟩, hb⟩
              have HJ21 := Lib.hid (HJ20.out.below hb)
              have HOW := Lib.hid hown
              have hs21 := hb.size
              have hqs := HJ20.out.qs
              have j9 : w21.cell? ⟨jb, 9, none⟩ = some (.slice none 0 0) := cell_of_row _ _ 9 _ 32 (0, 0) HJ21.out.b2
              have z9 : w21.frozen? ⟨jb, 9, none⟩ = false := HJ21.out.fz 9
              clear hown hb hca cb HJ20 HR20
              go_upto_region 37 with (fail)
              clear j9 z9
              have hrow : (w21.setCell ⟨jb, 9, none⟩ (.slice TA 0 tc)).heap[jb]? = some (.cells #[.int .i64 old, .int .i64 t0, .int .i64 t1, .int .i64 t2, .int .i64 t3, .int .i64 t4, .int .i64 sz, .slice SA st.length sc, .slice WA Q.length wq, .slice TA 0 tc] 32 (0, 0)) := by
                rw [heap_setCell_same w21 jb 9 _ 32 (.slice TA 0 tc) HJ21.out.b2]; simp
              have hfar : ∀ b, b ≠ jb → (w21.setCell ⟨jb, 9, none⟩ (.slice TA 0 tc)).heap[b]? = w21.heap[b]? := fun b hb => heap_setCell_other _ _ _ _ hb
              have hgr22 : Below w.heap.size w (w21.setCell ⟨jb, 9, none⟩ (.slice TA 0 tc)) := HJ21.out.gr.setCell (by have := HJ21.out.glt; have := HJ21.out.qlt; simp only; omega) _
              have hsz22 : (w21.setCell ⟨jb, 9, none⟩ (.slice TA 0 tc)).heap.size = w21.heap.size := by simp
              have HROW := Lib.hid hrow; have HFAR := Lib.hid hfar; have HG22 := Lib.hid hgr22; have HSZ := Lib.hid hsz22
              clear hrow hfar hgr22 hsz22
              generalize w21.setCell ⟨jb, 9, none⟩ (.slice TA 0 tc) = w22 at *
              have hop : OwnP w22 (jb + 1) ⟨sz, SA, sc, st, WA, wq, Q⟩ := HJ21.out.own.box fun b hb _ => HFAR.out b (by omega)
              have how : Re.OwnB w22 wc.heap.size TA 0 tc (l.drop a9) := ⟨HOW.out.1, row_hi HOW.out.2 (fun b hb _ _ => HFAR.out b (by omega))⟩
              have hcapT := how.cap
              unfold maxLen at hcapT
              have hobd := Re.num_bd HY.out HN0.out (by omega)
              have hok : JnOk w22 w22.heap.size ⟨old, ⟨t0, t1, t2, t3, t4⟩, ⟨sz, SA, sc, st, WA, wq, Q⟩, TA, tc, l.drop a9⟩ :=
                ⟨hop.read HY.out (by rw [HL.out]; omega) (HPL.out.trans HN10.out) rfl, how.rd, by simp only [HLD.out]; omega, (fun h => by simp only [HLD.out]; first | exact how.none h | exact ⟨by trivial, (how.none h).2⟩), by unfold I64; simp only; omega⟩
              have hsm := HSM.out _ _ (HPL.out.trans HN10.out)
              simp only [List.length_map] at hsm
              have hcall := RefMayJ_any _ w22 hok hsm.1 hsm.2
              unfold JnV.cells at hcall
              simp only [HLD.out] at hcall
              have HOK := Lib.hid hok
              have HPE : Hid (pJour l = some (JnV.jn ⟨old, ⟨t0, t1, t2, t3, t4⟩, ⟨sz, SA, sc, st, WA, wq, Q⟩, TA, tc, l.drop a9⟩)) := Lib.hid (by rw [HPJ.out, HN10.out]; rfl)
              have HOP := Lib.hid hop; have HOWB := Lib.hid how; have HOLD : Hid (I64 old) := Lib.hid (by unfold I64; omega)
              clear hop how hcapT hobd hok hsm
              obtain ⟨mb, hmb⟩ : ∃ mb, mayJB (JnV.jn ⟨old, ⟨t0, t1, t2, t3, t4⟩, ⟨sz, SA, sc, st, WA, wq, Q⟩, TA, tc, l.drop a9⟩) = mb := ⟨_, rfl⟩
              rw [hmb] at hcall
              have HMB := Lib.hid hmb
              clear hmb
              have d0 : w22.cell? ⟨jb, 0, none⟩ = some (.int .i64 old) := cell_of_row _ _ 0 _ 32 (0, 0) HROW.out
              have d1 : w22.cell? ⟨jb, 1, none⟩ = some (.int .i64 t0) := cell_of_row _ _ 1 _ 32 (0, 0) HROW.out
              have d2 : w22.cell? ⟨jb, 2, none⟩ = some (.int .i64 t1) := cell_of_row _ _ 2 _ 32 (0, 0) HROW.out
              have d3 : w22.cell? ⟨jb, 3, none⟩ = some (.int .i64 t2) := cell_of_row _ _ 3 _ 32 (0, 0) HROW.out
              have d4 : w22.cell? ⟨jb, 4, none⟩ = some (.int .i64 t3) := cell_of_row _ _ 4 _ 32 (0, 0) HROW.out
              have d5 : w22.cell? ⟨jb, 5, none⟩ = some (.int .i64 t4) := cell_of_row _ _ 5 _ 32 (0, 0) HROW.out
              have d6 : w22.cell? ⟨jb, 6, none⟩ = some (.int .i64 sz) := cell_of_row _ _ 6 _ 32 (0, 0) HROW.out
              have d7 : w22.cell? ⟨jb, 7, none⟩ = some (.slice SA st.length sc) := cell_of_row _ _ 7 _ 32 (0, 0) HROW.out
              have d8 : w22.cell? ⟨jb, 8, none⟩ = some (.slice WA Q.length wq) := cell_of_row _ _ 8 _ 32 (0, 0) HROW.out
              have d9 : w22.cell? ⟨jb, 9, none⟩ = some (.slice TA 0 tc) := cell_of_row _ _ 9 _ 32 (0, 0) HROW.out
              go_wp2_with fail
              refine hcall.mono ?_
              rintro e w23 ⟨rfl, hb⟩
              have HB23 := Lib.hid (HG22.out.trans (hb.mono HG22.out.size))
              have HX0 : Hid (w23.heap[w.heap.size]? = w22.heap[w.heap.size]?) := Lib.hid (hb.block _ (by have := HG22.out.size; have := HJ21.out.glt; have := HJ21.out.qlt; have := HJ21.out.qs; have := HSZ.out; omega))
              have HX1 : Hid (w23.heap[jb]? = w22.heap[jb]?) := Lib.hid (hb.block _ (by have := HJ21.out.qs; have := HSZ.out; omega))
              have HHB := Lib.hid hb
              have HB0 : Hid (w23.heap[w.heap.size]? = some (.cells #[.int .i64 0, .int .i64 0, .int .i64 0, .int .i64 0, .int .i64 0, .int .i64 0, .int .i64 0, .slice none 0 0, .slice none 0 0, .slice none 0 0] 32 (0, 0))) := Lib.hid (HX0.out.trans ((HFAR.out _ (by have := HJ21.out.glt; have := HJ21.out.qlt; omega)).trans HJ21.out.b0))
              clear hb hcall d0 d1 d2 d3 d4 d5 d6 d7 d8 d9
              cases mb with
              | false =>
                have HFAIL : Hid (∀ j, pJour l = some j → ¬ MayJ j) := Lib.hid (fun j hj hm => by
                  rw [HPE.out] at hj
                  injection hj with hj
                  subst hj
                  rw [mayJB_of hm] at HMB
                  exact absurd HMB.out (by simp))
                have HGR := Lib.hid HB23.out
                have e0 : w23.cell? ⟨w.heap.size, 0, none⟩ = some (.int .i64 0) := cell_of_row _ _ 0 _ 32 (0, 0) HB0.out
                have e1 : w23.cell? ⟨w.heap.size, 1, none⟩ = some (.int .i64 0) := cell_of_row _ _ 1 _ 32 (0, 0) HB0.out
                have e2 : w23.cell? ⟨w.heap.size, 2, none⟩ = some (.int .i64 0) := cell_of_row _ _ 2 _ 32 (0, 0) HB0.out
                have e3 : w23.cell? ⟨w.heap.size, 3, none⟩ = some (.int .i64 0) := cell_of_row _ _ 3 _ 32 (0, 0) HB0.out
                have e4 : w23.cell? ⟨w.heap.size, 4, none⟩ = some (.int .i64 0) := cell_of_row _ _ 4 _ 32 (0, 0) HB0.out
                have e5 : w23.cell? ⟨w.heap.size, 5, none⟩ = some (.int .i64 0) := cell_of_row _ _ 5 _ 32 (0, 0) HB0.out
                have e6 : w23.cell? ⟨w.heap.size, 6, none⟩ = some (.int .i64 0) := cell_of_row _ _ 6 _ 32 (0, 0) HB0.out
                have e7 : w23.cell? ⟨w.heap.size, 7, none⟩ = some (.slice none 0 0) := cell_of_row _ _ 7 _ 32 (0, 0) HB0.out
                have e8 : w23.cell? ⟨w.heap.size, 8, none⟩ = some (.slice none 0 0) := cell_of_row _ _ 8 _ 32 (0, 0) HB0.out
                have e9 : w23.cell? ⟨w.heap.size, 9, none⟩ = some (.slice none 0 0) := cell_of_row _ _ 9 _ 32 (0, 0) HB0.out
                have f0 : w23.frozen? ⟨w.heap.size, 0, none⟩ = false := frozen_of_row _ _ 0 _ _ HB0.out
                have f1 : w23.frozen? ⟨w.heap.size, 1, none⟩ = false := frozen_of_row _ _ 1 _ _ HB0.out
                have f2 : w23.frozen? ⟨w.heap.size, 2, none⟩ = false := frozen_of_row _ _ 2 _ _ HB0.out
                have f3 : w23.frozen? ⟨w.heap.size, 3, none⟩ = false := frozen_of_row _ _ 3 _ _ HB0.out
                have f4 : w23.frozen? ⟨w.heap.size, 4, none⟩ = false := frozen_of_row _ _ 4 _ _ HB0.out
                have f5 : w23.frozen? ⟨w.heap.size, 5, none⟩ = false := frozen_of_row _ _ 5 _ _ HB0.out
                have f6 : w23.frozen? ⟨w.heap.size, 6, none⟩ = false := frozen_of_row _ _ 6 _ _ HB0.out
                have f7 : w23.frozen? ⟨w.heap.size, 7, none⟩ = false := frozen_of_row _ _ 7 _ _ HB0.out
                have f8 : w23.frozen? ⟨w.heap.size, 8, none⟩ = false := frozen_of_row _ _ 8 _ _ HB0.out
                have f9 : w23.frozen? ⟨w.heap.size, 9, none⟩ = false := frozen_of_row _ _ 9 _ _ HB0.out
                go_wp2_with fail
                refine bodyPost_ret (v := .tuple #[.agg #[.int .i64 0, .int .i64 0, .int .i64 0, .int .i64 0, .int .i64 0, .int .i64 0, .int .i64 0, .slice none 0 0, .slice none 0 0, .slice none 0 0], .int .i64 4]) (by simp [results, Tryz.results8, go_sem, e0, e1, e2, e3, e4, e5, e6, e7, e8, e9]) rfl ?_
                exact ⟨.inr ⟨HFAIL.out, rfl⟩, (((((((((HGR.out.setCell (Nat.le_refl _) _).setCell (Nat.le_refl _) _).setCell (Nat.le_refl _) _).setCell (Nat.le_refl _) _).setCell (Nat.le_refl _) _).setCell (Nat.le_refl _) _).setCell (Nat.le_refl _) _).setCell (Nat.le_refl _) _).setCell (Nat.le_refl _) _).setCell (Nat.le_refl _) _⟩
              | true =>
                have hx := HX1.out.trans HROW.out
                have d0 : w23.cell? ⟨jb, 0, none⟩ = some (.int .i64 old) := cell_of_row _ _ 0 _ 32 (0, 0) hx
                have d1 : w23.cell? ⟨jb, 1, none⟩ = some (.int .i64 t0) := cell_of_row _ _ 1 _ 32 (0, 0) hx
                have d2 : w23.cell? ⟨jb, 2, none⟩ = some (.int .i64 t1) := cell_of_row _ _ 2 _ 32 (0, 0) hx
                have d3 : w23.cell? ⟨jb, 3, none⟩ = some (.int .i64 t2) := cell_of_row _ _ 3 _ 32 (0, 0) hx
                have d4 : w23.cell? ⟨jb, 4, none⟩ = some (.int .i64 t3) := cell_of_row _ _ 4 _ 32 (0, 0) hx
                have d5 : w23.cell? ⟨jb, 5, none⟩ = some (.int .i64 t4) := cell_of_row _ _ 5 _ 32 (0, 0) hx
                have d6 : w23.cell? ⟨jb, 6, none⟩ = some (.int .i64 sz) := cell_of_row _ _ 6 _ 32 (0, 0) hx
                have d7 : w23.cell? ⟨jb, 7, none⟩ = some (.slice SA st.length sc) := cell_of_row _ _ 7 _ 32 (0, 0) hx
                have d8 : w23.cell? ⟨jb, 8, none⟩ = some (.slice WA Q.length wq) := cell_of_row _ _ 8 _ 32 (0, 0) hx
                have d9 : w23.cell? ⟨jb, 9, none⟩ = some (.slice TA 0 tc) := cell_of_row _ _ 9 _ 32 (0, 0) hx
                have e0 : w23.cell? ⟨w.heap.size, 0, none⟩ = some (.int .i64 0) := cell_of_row _ _ 0 _ 32 (0, 0) HB0.out
                have e1 : w23.cell? ⟨w.heap.size, 1, none⟩ = some (.int .i64 0) := cell_of_row _ _ 1 _ 32 (0, 0) HB0.out
                have e2 : w23.cell? ⟨w.heap.size, 2, none⟩ = some (.int .i64 0) := cell_of_row _ _ 2 _ 32 (0, 0) HB0.out
                have e3 : w23.cell? ⟨w.heap.size, 3, none⟩ = some (.int .i64 0) := cell_of_row _ _ 3 _ 32 (0, 0) HB0.out
                have e4 : w23.cell? ⟨w.heap.size, 4, none⟩ = some (.int .i64 0) := cell_of_row _ _ 4 _ 32 (0, 0) HB0.out
                have e5 : w23.cell? ⟨w.heap.size, 5, none⟩ = some (.int .i64 0) := cell_of_row _ _ 5 _ 32 (0, 0) HB0.out
                have e6 : w23.cell? ⟨w.heap.size, 6, none⟩ = some (.int .i64 0) := cell_of_row _ _ 6 _ 32 (0, 0) HB0.out
                have e7 : w23.cell? ⟨w.heap.size, 7, none⟩ = some (.slice none 0 0) := cell_of_row _ _ 7 _ 32 (0, 0) HB0.out
                have e8 : w23.cell? ⟨w.heap.size, 8, none⟩ = some (.slice none 0 0) := cell_of_row _ _ 8 _ 32 (0, 0) HB0.out
                have e9 : w23.cell? ⟨w.heap.size, 9, none⟩ = some (.slice none 0 0) := cell_of_row _ _ 9 _ 32 (0, 0) HB0.out
                have f0 : w23.frozen? ⟨w.heap.size, 0, none⟩ = false := frozen_of_row _ _ 0 _ _ HB0.out
                have f1 : w23.frozen? ⟨w.heap.size, 1, none⟩ = false := frozen_of_row _ _ 1 _ _ HB0.out
                have f2 : w23.frozen? ⟨w.heap.size, 2, none⟩ = false := frozen_of_row _ _ 2 _ _ HB0.out
                have f3 : w23.frozen? ⟨w.heap.size, 3, none⟩ = false := frozen_of_row _ _ 3 _ _ HB0.out
                have f4 : w23.frozen? ⟨w.heap.size, 4, none⟩ = false := frozen_of_row _ _ 4 _ _ HB0.out
                have f5 : w23.frozen? ⟨w.heap.size, 5, none⟩ = false := frozen_of_row _ _ 5 _ _ HB0.out
                have f6 : w23.frozen? ⟨w.heap.size, 6, none⟩ = false := frozen_of_row _ _ 6 _ _ HB0.out
                have f7 : w23.frozen? ⟨w.heap.size, 7, none⟩ = false := frozen_of_row _ _ 7 _ _ HB0.out
                have f8 : w23.frozen? ⟨w.heap.size, 8, none⟩ = false := frozen_of_row _ _ 8 _ _ HB0.out
                have f9 : w23.frozen? ⟨w.heap.size, 9, none⟩ = false := frozen_of_row _ _ 9 _ _ HB0.out
                clear hx
                go_wp2_with fail
                have hsame : ∀ b, b ≠ w.heap.size → ((((((((((w23.setCell ⟨w.heap.size, 0, none⟩ (.int .i64 old)).setCell ⟨w.heap.size, 1, none⟩ (.int .i64 t0)).setCell ⟨w.heap.size, 2, none⟩ (.int .i64 t1)).setCell ⟨w.heap.size, 3, none⟩ (.int .i64 t2)).setCell ⟨w.heap.size, 4, none⟩ (.int .i64 t3)).setCell ⟨w.heap.size, 5, none⟩ (.int .i64 t4)).setCell ⟨w.heap.size, 6, none⟩ (.int .i64 sz)).setCell ⟨w.heap.size, 7, none⟩ (.slice SA st.length sc)).setCell ⟨w.heap.size, 8, none⟩ (.slice WA Q.length wq)).setCell ⟨w.heap.size, 9, none⟩ (.slice TA 0 tc)).heap[b]? = w23.heap[b]? := fun b hb => by
                  rw [heap_setCell_other _ _ _ _ hb, heap_setCell_other _ _ _ _ hb, heap_setCell_other _ _ _ _ hb, heap_setCell_other _ _ _ _ hb, heap_setCell_other _ _ _ _ hb, heap_setCell_other _ _ _ _ hb, heap_setCell_other _ _ _ _ hb, heap_setCell_other _ _ _ _ hb, heap_setCell_other _ _ _ _ hb, heap_setCell_other _ _ _ _ hb]
                have hbw : Below w.heap.size w ((((((((((w23.setCell ⟨w.heap.size, 0, none⟩ (.int .i64 old)).setCell ⟨w.heap.size, 1, none⟩ (.int .i64 t0)).setCell ⟨w.heap.size, 2, none⟩ (.int .i64 t1)).setCell ⟨w.heap.size, 3, none⟩ (.int .i64 t2)).setCell ⟨w.heap.size, 4, none⟩ (.int .i64 t3)).setCell ⟨w.heap.size, 5, none⟩ (.int .i64 t4)).setCell ⟨w.heap.size, 6, none⟩ (.int .i64 sz)).setCell ⟨w.heap.size, 7, none⟩ (.slice SA st.length sc)).setCell ⟨w.heap.size, 8, none⟩ (.slice WA Q.length wq)).setCell ⟨w.heap.size, 9, none⟩ (.slice TA 0 tc)) := ((((((((((HB23.out.setCell (p := ⟨w.heap.size, 0, none⟩) (Nat.le_refl _) (.int .i64 old)).setCell (p := ⟨w.heap.size, 1, none⟩) (Nat.le_refl _) (.int .i64 t0)).setCell (p := ⟨w.heap.size, 2, none⟩) (Nat.le_refl _) (.int .i64 t1)).setCell (p := ⟨w.heap.size, 3, none⟩) (Nat.le_refl _) (.int .i64 t2)).setCell (p := ⟨w.heap.size, 4, none⟩) (Nat.le_refl _) (.int .i64 t3)).setCell (p := ⟨w.heap.size, 5, none⟩) (Nat.le_refl _) (.int .i64 t4)).setCell (p := ⟨w.heap.size, 6, none⟩) (Nat.le_refl _) (.int .i64 sz)).setCell (p := ⟨w.heap.size, 7, none⟩) (Nat.le_refl _) (.slice SA st.length sc)).setCell (p := ⟨w.heap.size, 8, none⟩) (Nat.le_refl _) (.slice WA Q.length wq)).setCell (p := ⟨w.heap.size, 9, none⟩) (Nat.le_refl _) (.slice TA 0 tc))
                have r0 := heap_setCell_same w23 w.heap.size 0 _ 32 (.int .i64 old) HB0.out
                have r1 := heap_setCell_same _ w.heap.size 1 _ 32 (.int .i64 t0) r0
                have r2 := heap_setCell_same _ w.heap.size 2 _ 32 (.int .i64 t1) r1
                have r3 := heap_setCell_same _ w.heap.size 3 _ 32 (.int .i64 t2) r2
                have r4 := heap_setCell_same _ w.heap.size 4 _ 32 (.int .i64 t3) r3
                have r5 := heap_setCell_same _ w.heap.size 5 _ 32 (.int .i64 t4) r4
                have r6 := heap_setCell_same _ w.heap.size 6 _ 32 (.int .i64 sz) r5
                have r7 := heap_setCell_same _ w.heap.size 7 _ 32 (.slice SA st.length sc) r6
                have r8 := heap_setCell_same _ w.heap.size 8 _ 32 (.slice WA Q.length wq) r7
                have r9 := heap_setCell_same _ w.heap.size 9 _ 32 (.slice TA 0 tc) r8
                have hr : ((((((((((w23.setCell ⟨w.heap.size, 0, none⟩ (.int .i64 old)).setCell ⟨w.heap.size, 1, none⟩ (.int .i64 t0)).setCell ⟨w.heap.size, 2, none⟩ (.int .i64 t1)).setCell ⟨w.heap.size, 3, none⟩ (.int .i64 t2)).setCell ⟨w.heap.size, 4, none⟩ (.int .i64 t3)).setCell ⟨w.heap.size, 5, none⟩ (.int .i64 t4)).setCell ⟨w.heap.size, 6, none⟩ (.int .i64 sz)).setCell ⟨w.heap.size, 7, none⟩ (.slice SA st.length sc)).setCell ⟨w.heap.size, 8, none⟩ (.slice WA Q.length wq)).setCell ⟨w.heap.size, 9, none⟩ (.slice TA 0 tc)).heap[w.heap.size]? = some (.cells #[.int .i64 old, .int .i64 t0, .int .i64 t1, .int .i64 t2, .int .i64 t3, .int .i64 t4, .int .i64 sz, .slice SA st.length sc, .slice WA Q.length wq, .slice TA 0 tc] 32 (0, 0)) := by rw [r9]; simp
                clear r0 r1 r2 r3 r4 r5 r6 r7 r8 r9
                generalize ((((((((((w23.setCell ⟨w.heap.size, 0, none⟩ (.int .i64 old)).setCell ⟨w.heap.size, 1, none⟩ (.int .i64 t0)).setCell ⟨w.heap.size, 2, none⟩ (.int .i64 t1)).setCell ⟨w.heap.size, 3, none⟩ (.int .i64 t2)).setCell ⟨w.heap.size, 4, none⟩ (.int .i64 t3)).setCell ⟨w.heap.size, 5, none⟩ (.int .i64 t4)).setCell ⟨w.heap.size, 6, none⟩ (.int .i64 sz)).setCell ⟨w.heap.size, 7, none⟩ (.slice SA st.length sc)).setCell ⟨w.heap.size, 8, none⟩ (.slice WA Q.length wq)).setCell ⟨w.heap.size, 9, none⟩ (.slice TA 0 tc)) = wf at *
                have g0 : wf.cell? ⟨w.heap.size, 0, none⟩ = some (.int .i64 old) := cell_of_row _ _ 0 _ 32 (0, 0) hr
                have g1 : wf.cell? ⟨w.heap.size, 1, none⟩ = some (.int .i64 t0) := cell_of_row _ _ 1 _ 32 (0, 0) hr
                have g2 : wf.cell? ⟨w.heap.size, 2, none⟩ = some (.int .i64 t1) := cell_of_row _ _ 2 _ 32 (0, 0) hr
                have g3 : wf.cell? ⟨w.heap.size, 3, none⟩ = some (.int .i64 t2) := cell_of_row _ _ 3 _ 32 (0, 0) hr
                have g4 : wf.cell? ⟨w.heap.size, 4, none⟩ = some (.int .i64 t3) := cell_of_row _ _ 4 _ 32 (0, 0) hr
                have g5 : wf.cell? ⟨w.heap.size, 5, none⟩ = some (.int .i64 t4) := cell_of_row _ _ 5 _ 32 (0, 0) hr
                have g6 : wf.cell? ⟨w.heap.size, 6, none⟩ = some (.int .i64 sz) := cell_of_row _ _ 6 _ 32 (0, 0) hr
                have g7 : wf.cell? ⟨w.heap.size, 7, none⟩ = some (.slice SA st.length sc) := cell_of_row _ _ 7 _ 32 (0, 0) hr
                have g8 : wf.cell? ⟨w.heap.size, 8, none⟩ = some (.slice WA Q.length wq) := cell_of_row _ _ 8 _ 32 (0, 0) hr
                have g9 : wf.cell? ⟨w.heap.size, 9, none⟩ = some (.slice TA 0 tc) := cell_of_row _ _ 9 _ 32 (0, 0) hr
                have hne : ∀ b, jb ≤ b → b < w22.heap.size → wf.heap[b]? = w22.heap[b]? := fun b hb hlt => (hsame b (by have := HJ21.out.glt; have := HJ21.out.qlt; omega)).trans (HHB.out.block b hlt)
                have hop : OwnP wf (jb + 1) ⟨sz, SA, sc, st, WA, wq, Q⟩ := HOP.out.box fun b hb hlt => hne b (by omega) hlt
                have how : Re.OwnB wf wc.heap.size TA 0 tc (l.drop a9) := ⟨HOWB.out.1, row_hi HOWB.out.2 (fun b hb hlt _ => hne b (by omega) hlt)⟩
                have hcapT := how.cap
                unfold maxLen at hcapT
                have hok : JnOk wf wf.heap.size ⟨old, ⟨t0, t1, t2, t3, t4⟩, ⟨sz, SA, sc, st, WA, wq, Q⟩, TA, tc, l.drop a9⟩ :=
                  ⟨hop.read HY.out (by rw [HL.out]; omega) (HPL.out.trans HN10.out) rfl, how.rd, by simp only [HLD.out]; omega, (fun h => by simp only [HLD.out]; first | exact how.none h | exact ⟨by trivial, (how.none h).2⟩), HOLD.out⟩
                refine bodyPost_ret (v := .tuple #[.agg #[.int .i64 old, .int .i64 t0, .int .i64 t1, .int .i64 t2, .int .i64 t3, .int .i64 t4, .int .i64 sz, .slice SA st.length sc, .slice WA Q.length wq, .slice TA 0 tc], .int .i64 0]) (by simp [results, Tryz.results8, go_sem, g0, g1, g2, g3, g4, g5, g6, g7, g8, g9]) rfl ?_
                exact ⟨.inl ⟨_, HPE.out, mayJB_is.1 HMB.out, by unfold JnV.cells; simp only [HLD.out], hok⟩, hbw⟩
            · go_wp2_with fail
              refine (Re.Copy_any _ _ _ wc (l.drop a9) HLD.out HAP.out (by omega)).mono ?_
              rintro e w21 ⟨⟨TA, tc, rfl, hown⟩, hb⟩
              have HJ21 := Lib.hid (HJ20.out.below hb)
              have HOW := Lib.hid hown
              have hs21 := hb.size
              have hqs := HJ20.out.qs
              have j9 : w21.cell? ⟨jb, 9, none⟩ = some (.slice none 0 0) := cell_of_row _ _ 9 _ 32 (0, 0) HJ21.out.b2
              have z9 : w21.frozen? ⟨jb, 9, none⟩ = false := HJ21.out.fz 9
              clear hown hb hca cb HJ20 HR20
              go_upto_region 37 with (fail)
              clear j9 z9
              have hrow : (w21.setCell ⟨jb, 9, none⟩ (.slice TA (n - a9) tc)).heap[jb]? = some (.cells #[.int .i64 old, .int .i64 t0, .int .i64 t1, .int .i64 t2, .int .i64 t3, .int .i64 t4, .int .i64 sz, .slice SA st.length sc, .slice WA Q.length wq, .slice TA (n - a9) tc] 32 (0, 0)) := by
                rw [heap_setCell_same w21 jb 9 _ 32 (.slice TA (n - a9) tc) HJ21.out.b2]; simp
              have hfar : ∀ b, b ≠ jb → (w21.setCell ⟨jb, 9, none⟩ (.slice TA (n - a9) tc)).heap[b]? = w21.heap[b]? := fun b hb => heap_setCell_other _ _ _ _ hb
              have hgr22 : Below w.heap.size w (w21.setCell ⟨jb, 9, none⟩ (.slice TA (n - a9) tc)) := HJ21.out.gr.setCell (by have := HJ21.out.glt; have := HJ21.out.qlt; simp only; omega) _
              have hsz22 : (w21.setCell ⟨jb, 9, none⟩ (.slice TA (n - a9) tc)).heap.size = w21.heap.size := by simp
              have HROW := Lib.hid hrow; have HFAR := Lib.hid hfar; have HG22 := Lib.hid hgr22; have HSZ := Lib.hid hsz22
              clear hrow hfar hgr22 hsz22
              generalize w21.setCell ⟨jb, 9, none⟩ (.slice TA (n - a9) tc) = w22 at *
              have hop : OwnP w22 (jb + 1) ⟨sz, SA, sc, st, WA, wq, Q⟩ := HJ21.out.own.box fun b hb _ => HFAR.out b (by omega)
              have how : Re.OwnB w22 wc.heap.size TA (n - a9) tc (l.drop a9) := ⟨HOW.out.1, row_hi HOW.out.2 (fun b hb _ _ => HFAR.out b (by omega))⟩
              have hcapT := how.cap
              unfold maxLen at hcapT
              have hobd := Re.num_bd HY.out HN0.out (by omega)
              have hok : JnOk w22 w22.heap.size ⟨old, ⟨t0, t1, t2, t3, t4⟩, ⟨sz, SA, sc, st, WA, wq, Q⟩, TA, tc, l.drop a9⟩ :=
                ⟨hop.read HY.out (by rw [HL.out]; omega) (HPL.out.trans HN10.out) rfl, how.rd, by simp only [HLD.out]; omega, (fun h => by simp only [HLD.out]; first | exact how.none h | exact ⟨by trivial, (how.none h).2⟩), by unfold I64; simp only; omega⟩
              have hsm := HSM.out _ _ (HPL.out.trans HN10.out)
              simp only [List.length_map] at hsm
              have hcall := RefMayJ_any _ w22 hok hsm.1 hsm.2
              unfold JnV.cells at hcall
              simp only [HLD.out] at hcall
              have HOK := Lib.hid hok
              have HPE : Hid (pJour l = some (JnV.jn ⟨old, ⟨t0, t1, t2, t3, t4⟩, ⟨sz, SA, sc, st, WA, wq, Q⟩, TA, tc, l.drop a9⟩)) := Lib.hid (by rw [HPJ.out, HN10.out]; rfl)
              have HOP := Lib.hid hop; have HOWB := Lib.hid how; have HOLD : Hid (I64 old) := Lib.hid (by unfold I64; omega)
              clear hop how hcapT hobd hok hsm
              obtain ⟨mb, hmb⟩ : ∃ mb, mayJB (JnV.jn ⟨old, ⟨t0, t1, t2, t3, t4⟩, ⟨sz, SA, sc, st, WA, wq, Q⟩, TA, tc, l.drop a9⟩) = mb := ⟨_, rfl⟩
              rw [hmb] at hcall
              have HMB := Lib.hid hmb
              clear hmb
              have d0 : w22.cell? ⟨jb, 0, none⟩ = some (.int .i64 old) := cell_of_row _ _ 0 _ 32 (0, 0) HROW.out
              have d1 : w22.cell? ⟨jb, 1, none⟩ = some (.int .i64 t0) := cell_of_row _ _ 1 _ 32 (0, 0) HROW.out
              have d2 : w22.cell? ⟨jb, 2, none⟩ = some (.int .i64 t1) := cell_of_row _ _ 2 _ 32 (0, 0) HROW.out
              have d3 : w22.cell? ⟨jb, 3, none⟩ = some (.int .i64 t2) := cell_of_row _ _ 3 _ 32 (0, 0) HROW.out
              have d4 : w22.cell? ⟨jb, 4, none⟩ = some (.int .i64 t3) := cell_of_row _ _ 4 _ 32 (0, 0) HROW.out
              have d5 : w22.cell? ⟨jb, 5, none⟩ = some (.int .i64 t4) := cell_of_row _ _ 5 _ 32 (0, 0) HROW.out
              have d6 : w22.cell? ⟨jb, 6, none⟩ = some (.int .i64 sz) := cell_of_row _ _ 6 _ 32 (0, 0) HROW.out
              have d7 : w22.cell? ⟨jb, 7, none⟩ = some (.slice SA st.length sc) := cell_of_row _ _ 7 _ 32 (0, 0) HROW.out
              have d8 : w22.cell? ⟨jb, 8, none⟩ = some (.slice WA Q.length wq) := cell_of_row _ _ 8 _ 32 (0, 0) HROW.out
              have d9 : w22.cell? ⟨jb, 9, none⟩ = some (.slice TA (n - a9) tc) := cell_of_row _ _ 9 _ 32 (0, 0) HROW.out
              go_wp2_with fail
              refine hcall.mono ?_
              rintro e w23 ⟨rfl, hb⟩
              have HB23 := Lib.hid (HG22.out.trans (hb.mono HG22.out.size))
              have HX0 : Hid (w23.heap[w.heap.size]? = w22.heap[w.heap.size]?) := Lib.hid (hb.block _ (by have := HG22.out.size; have := HJ21.out.glt; have := HJ21.out.qlt; have := HJ21.out.qs; have := HSZ.out; omega))
              have HX1 : Hid (w23.heap[jb]? = w22.heap[jb]?) := Lib.hid (hb.block _ (by have := HJ21.out.qs; have := HSZ.out; omega))
              have HHB := Lib.hid hb
              have HB0 : Hid (w23.heap[w.heap.size]? = some (.cells #[.int .i64 0, .int .i64 0, .int .i64 0, .int .i64 0, .int .i64 0, .int .i64 0, .int .i64 0, .slice none 0 0, .slice none 0 0, .slice none 0 0] 32 (0, 0))) := Lib.hid (HX0.out.trans ((HFAR.out _ (by have := HJ21.out.glt; have := HJ21.out.qlt; omega)).trans HJ21.out.b0))
              clear hb hcall d0 d1 d2 d3 d4 d5 d6 d7 d8 d9
              cases mb with
              | false =>
                have HFAIL : Hid (∀ j, pJour l = some j → ¬ MayJ j) := Lib.hid (fun j hj hm => by
                  rw [HPE.out] at hj
                  injection hj with hj
                  subst hj
                  rw [mayJB_of hm] at HMB
                  exact absurd HMB.out (by simp))
                have HGR := Lib.hid HB23.out
                have e0 : w23.cell? ⟨w.heap.size, 0, none⟩ = some (.int .i64 0) := cell_of_row _ _ 0 _ 32 (0, 0) HB0.out
                have e1 : w23.cell? ⟨w.heap.size, 1, none⟩ = some (.int .i64 0) := cell_of_row _ _ 1 _ 32 (0, 0) HB0.out
                have e2 : w23.cell? ⟨w.heap.size, 2, none⟩ = some (.int .i64 0) := cell_of_row _ _ 2 _ 32 (0, 0) HB0.out
                have e3 : w23.cell? ⟨w.heap.size, 3, none⟩ = some (.int .i64 0) := cell_of_row _ _ 3 _ 32 (0, 0) HB0.out
                have e4 : w23.cell? ⟨w.heap.size, 4, none⟩ = some (.int .i64 0) := cell_of_row _ _ 4 _ 32 (0, 0) HB0.out
                have e5 : w23.cell? ⟨w.heap.size, 5, none⟩ = some (.int .i64 0) := cell_of_row _ _ 5 _ 32 (0, 0) HB0.out
                have e6 : w23.cell? ⟨w.heap.size, 6, none⟩ = some (.int .i64 0) := cell_of_row _ _ 6 _ 32 (0, 0) HB0.out
                have e7 : w23.cell? ⟨w.heap.size, 7, none⟩ = some (.slice none 0 0) := cell_of_row _ _ 7 _ 32 (0, 0) HB0.out
                have e8 : w23.cell? ⟨w.heap.size, 8, none⟩ = some (.slice none 0 0) := cell_of_row _ _ 8 _ 32 (0, 0) HB0.out
                have e9 : w23.cell? ⟨w.heap.size, 9, none⟩ = some (.slice none 0 0) := cell_of_row _ _ 9 _ 32 (0, 0) HB0.out
                have f0 : w23.frozen? ⟨w.heap.size, 0, none⟩ = false := frozen_of_row _ _ 0 _ _ HB0.out
                have f1 : w23.frozen? ⟨w.heap.size, 1, none⟩ = false := frozen_of_row _ _ 1 _ _ HB0.out
                have f2 : w23.frozen? ⟨w.heap.size, 2, none⟩ = false := frozen_of_row _ _ 2 _ _ HB0.out
                have f3 : w23.frozen? ⟨w.heap.size, 3, none⟩ = false := frozen_of_row _ _ 3 _ _ HB0.out
                have f4 : w23.frozen? ⟨w.heap.size, 4, none⟩ = false := frozen_of_row _ _ 4 _ _ HB0.out
                have f5 : w23.frozen? ⟨w.heap.size, 5, none⟩ = false := frozen_of_row _ _ 5 _ _ HB0.out
                have f6 : w23.frozen? ⟨w.heap.size, 6, none⟩ = false := frozen_of_row _ _ 6 _ _ HB0.out
                have f7 : w23.frozen? ⟨w.heap.size, 7, none⟩ = false := frozen_of_row _ _ 7 _ _ HB0.out
                have f8 : w23.frozen? ⟨w.heap.size, 8, none⟩ = false := frozen_of_row _ _ 8 _ _ HB0.out
                have f9 : w23.frozen? ⟨w.heap.size, 9, none⟩ = false := frozen_of_row _ _ 9 _ _ HB0.out
                go_wp2_with fail
                refine bodyPost_ret (v := .tuple #[.agg #[.int .i64 0, .int .i64 0, .int .i64 0, .int .i64 0, .int .i64 0, .int .i64 0, .int .i64 0, .slice none 0 0, .slice none 0 0, .slice none 0 0], .int .i64 4]) (by simp [results, Tryz.results8, go_sem, e0, e1, e2, e3, e4, e5, e6, e7, e8, e9]) rfl ?_
                exact ⟨.inr ⟨HFAIL.out, rfl⟩, (((((((((HGR.out.setCell (Nat.le_refl _) _).setCell (Nat.le_refl _) _).setCell (Nat.le_refl _) _).setCell (Nat.le_refl _) _).setCell (Nat.le_refl _) _).setCell (Nat.le_refl _) _).setCell (Nat.le_refl _) _).setCell (Nat.le_refl _) _).setCell (Nat.le_refl _) _).setCell (Nat.le_refl _) _⟩
              | true =>
                have hx := HX1.out.trans HROW.out
                have d0 : w23.cell? ⟨jb, 0, none⟩ = some (.int .i64 old) := cell_of_row _ _ 0 _ 32 (0, 0) hx
                have d1 : w23.cell? ⟨jb, 1, none⟩ = some (.int .i64 t0) := cell_of_row _ _ 1 _ 32 (0, 0) hx
                have d2 : w23.cell? ⟨jb, 2, none⟩ = some (.int .i64 t1) := cell_of_row _ _ 2 _ 32 (0, 0) hx
                have d3 : w23.cell? ⟨jb, 3, none⟩ = some (.int .i64 t2) := cell_of_row _ _ 3 _ 32 (0, 0) hx
                have d4 : w23.cell? ⟨jb, 4, none⟩ = some (.int .i64 t3) := cell_of_row _ _ 4 _ 32 (0, 0) hx
                have d5 : w23.cell? ⟨jb, 5, none⟩ = some (.int .i64 t4) := cell_of_row _ _ 5 _ 32 (0, 0) hx
                have d6 : w23.cell? ⟨jb, 6, none⟩ = some (.int .i64 sz) := cell_of_row _ _ 6 _ 32 (0, 0) hx
                have d7 : w23.cell? ⟨jb, 7, none⟩ = some (.slice SA st.length sc) := cell_of_row _ _ 7 _ 32 (0, 0) hx
                have d8 : w23.cell? ⟨jb, 8, none⟩ = some (.slice WA Q.length wq) := cell_of_row _ _ 8 _ 32 (0, 0) hx
                have d9 : w23.cell? ⟨jb, 9, none⟩ = some (.slice TA (n - a9) tc) := cell_of_row _ _ 9 _ 32 (0, 0) hx
                have e0 : w23.cell? ⟨w.heap.size, 0, none⟩ = some (.int .i64 0) := cell_of_row _ _ 0 _ 32 (0, 0) HB0.out
                have e1 : w23.cell? ⟨w.heap.size, 1, none⟩ = some (.int .i64 0) := cell_of_row _ _ 1 _ 32 (0, 0) HB0.out
                have e2 : w23.cell? ⟨w.heap.size, 2, none⟩ = some (.int .i64 0) := cell_of_row _ _ 2 _ 32 (0, 0) HB0.out
                have e3 : w23.cell? ⟨w.heap.size, 3, none⟩ = some (.int .i64 0) := cell_of_row _ _ 3 _ 32 (0, 0) HB0.out
                have e4 : w23.cell? ⟨w.heap.size, 4, none⟩ = some (.int .i64 0) := cell_of_row _ _ 4 _ 32 (0, 0) HB0.out
                have e5 : w23.cell? ⟨w.heap.size, 5, none⟩ = some (.int .i64 0) := cell_of_row _ _ 5 _ 32 (0, 0) HB0.out
                have e6 : w23.cell? ⟨w.heap.size, 6, none⟩ = some (.int .i64 0) := cell_of_row _ _ 6 _ 32 (0, 0) HB0.out
                have e7 : w23.cell? ⟨w.heap.size, 7, none⟩ = some (.slice none 0 0) := cell_of_row _ _ 7 _ 32 (0, 0) HB0.out
                have e8 : w23.cell? ⟨w.heap.size, 8, none⟩ = some (.slice none 0 0) := cell_of_row _ _ 8 _ 32 (0, 0) HB0.out
                have e9 : w23.cell? ⟨w.heap.size, 9, none⟩ = some (.slice none 0 0) := cell_of_row _ _ 9 _ 32 (0, 0) HB0.out
                have f0 : w23.frozen? ⟨w.heap.size, 0, none⟩ = false := frozen_of_row _ _ 0 _ _ HB0.out
                have f1 : w23.frozen? ⟨w.heap.size, 1, none⟩ = false := frozen_of_row _ _ 1 _ _ HB0.out
                have f2 : w23.frozen? ⟨w.heap.size, 2, none⟩ = false := frozen_of_row _ _ 2 _ _ HB0.out
                have f3 : w23.frozen? ⟨w.heap.size, 3, none⟩ = false := frozen_of_row _ _ 3 _ _ HB0.out
                have f4 : w23.frozen? ⟨w.heap.size, 4, none⟩ = false := frozen_of_row _ _ 4 _ _ HB0.out
                have f5 : w23.frozen? ⟨w.heap.size, 5, none⟩ = false := frozen_of_row _ _ 5 _ _ HB0.out
                have f6 : w23.frozen? ⟨w.heap.size, 6, none⟩ = false := frozen_of_row _ _ 6 _ _ HB0.out
                have f7 : w23.frozen? ⟨w.heap.size, 7, none⟩ = false := frozen_of_row _ _ 7 _ _ HB0.out
                have f8 : w23.frozen? ⟨w.heap.size, 8, none⟩ = false := frozen_of_row _ _ 8 _ _ HB0.out
                have f9 : w23.frozen? ⟨w.heap.size, 9, none⟩ = false := frozen_of_row _ _ 9 _ _ HB0.out
                clear hx
                go_wp2_with fail
                have hsame : ∀ b, b ≠ w.heap.size → ((((((((((w23.setCell ⟨w.heap.size, 0, none⟩ (.int .i64 old)).setCell ⟨w.heap.size, 1, none⟩ (.int .i64 t0)).setCell ⟨w.heap.size, 2, none⟩ (.int .i64 t1)).setCell ⟨w.heap.size, 3, none⟩ (.int .i64 t2)).setCell ⟨w.heap.size, 4, none⟩ (.int .i64 t3)).setCell ⟨w.heap.size, 5, none⟩ (.int .i64 t4)).setCell ⟨w.heap.size, 6, none⟩ (.int .i64 sz)).setCell ⟨w.heap.size, 7, none⟩ (.slice SA st.length sc)).setCell ⟨w.heap.size, 8, none⟩ (.slice WA Q.length wq)).setCell ⟨w.heap.size, 9, none⟩ (.slice TA (n - a9) tc)).heap[b]? = w23.heap[b]? := fun b hb => by
                  rw [heap_setCell_other _ _ _ _ hb, heap_setCell_other _ _ _ _ hb, heap_setCell_other _ _ _ _ hb, heap_setCell_other _ _ _ _ hb, heap_setCell_other _ _ _ _ hb, heap_setCell_other _ _ _ _ hb, heap_setCell_other _ _ _ _ hb, heap_setCell_other _ _ _ _ hb, heap_setCell_other _ _ _ _ hb, heap_setCell_other _ _ _ _ hb]
                have hbw : Below w.heap.size w ((((((((((w23.setCell ⟨w.heap.size, 0, none⟩ (.int .i64 old)).setCell ⟨w.heap.size, 1, none⟩ (.int .i64 t0)).setCell ⟨w.heap.size, 2, none⟩ (.int .i64 t1)).setCell ⟨w.heap.size, 3, none⟩ (.int .i64 t2)).setCell ⟨w.heap.size, 4, none⟩ (.int .i64 t3)).setCell ⟨w.heap.size, 5, none⟩ (.int .i64 t4)).setCell ⟨w.heap.size, 6, none⟩ (.int .i64 sz)).setCell ⟨w.heap.size, 7, none⟩ (.slice SA st.length sc)).setCell ⟨w.heap.size, 8, none⟩ (.slice WA Q.length wq)).setCell ⟨w.heap.size, 9, none⟩ (.slice TA (n - a9) tc)) := ((((((((((HB23.out.setCell (p := ⟨w.heap.size, 0, none⟩) (Nat.le_refl _) (.int .i64 old)).setCell (p := ⟨w.heap.size, 1, none⟩) (Nat.le_refl _) (.int .i64 t0)).setCell (p := ⟨w.heap.size, 2, none⟩) (Nat.le_refl _) (.int .i64 t1)).setCell (p := ⟨w.heap.size, 3, none⟩) (Nat.le_refl _) (.int .i64 t2)).setCell (p := ⟨w.heap.size, 4, none⟩) (Nat.le_refl _) (.int .i64 t3)).setCell (p := ⟨w.heap.size, 5, none⟩) (Nat.le_refl _) (.int .i64 t4)).setCell (p := ⟨w.heap.size, 6, none⟩) (Nat.le_refl _) (.int .i64 sz)).setCell (p := ⟨w.heap.size, 7, none⟩) (Nat.le_refl _) (.slice SA st.length sc)).setCell (p := ⟨w.heap.size, 8, none⟩) (Nat.le_refl _) (.slice WA Q.length wq)).setCell (p := ⟨w.heap.size, 9, none⟩) (Nat.le_refl _) (.slice TA (n - a9) tc))
                have r0 := heap_setCell_same w23 w.heap.size 0 _ 32 (.int .i64 old) HB0.out
                have r1 := heap_setCell_same _ w.heap.size 1 _ 32 (.int .i64 t0) r0
                have r2 := heap_setCell_same _ w.heap.size 2 _ 32 (.int .i64 t1) r1
                have r3 := heap_setCell_same _ w.heap.size 3 _ 32 (.int .i64 t2) r2
                have r4 := heap_setCell_same _ w.heap.size 4 _ 32 (.int .i64 t3) r3
                have r5 := heap_setCell_same _ w.heap.size 5 _ 32 (.int .i64 t4) r4
                have r6 := heap_setCell_same _ w.heap.size 6 _ 32 (.int .i64 sz) r5
                have r7 := heap_setCell_same _ w.heap.size 7 _ 32 (.slice SA st.length sc) r6
                have r8 := heap_setCell_same _ w.heap.size 8 _ 32 (.slice WA Q.length wq) r7
                have r9 := heap_setCell_same _ w.heap.size 9 _ 32 (.slice TA (n - a9) tc) r8
                have hr : ((((((((((w23.setCell ⟨w.heap.size, 0, none⟩ (.int .i64 old)).setCell ⟨w.heap.size, 1, none⟩ (.int .i64 t0)).setCell ⟨w.heap.size, 2, none⟩ (.int .i64 t1)).setCell ⟨w.heap.size, 3, none⟩ (.int .i64 t2)).setCell ⟨w.heap.size, 4, none⟩ (.int .i64 t3)).setCell ⟨w.heap.size, 5, none⟩ (.int .i64 t4)).setCell ⟨w.heap.size, 6, none⟩ (.int .i64 sz)).setCell ⟨w.heap.size, 7, none⟩ (.slice SA st.length sc)).setCell ⟨w.heap.size, 8, none⟩ (.slice WA Q.length wq)).setCell ⟨w.heap.size, 9, none⟩ (.slice TA (n - a9) tc)).heap[w.heap.size]? = some (.cells #[.int .i64 old, .int .i64 t0, .int .i64 t1, .int .i64 t2, .int .i64 t3, .int .i64 t4, .int .i64 sz, .slice SA st.length sc, .slice WA Q.length wq, .slice TA (n - a9) tc] 32 (0, 0)) := by rw [r9]; simp
                clear r0 r1 r2 r3 r4 r5 r6 r7 r8 r9
                generalize ((((((((((w23.setCell ⟨w.heap.size, 0, none⟩ (.int .i64 old)).setCell ⟨w.heap.size, 1, none⟩ (.int .i64 t0)).setCell ⟨w.heap.size, 2, none⟩ (.int .i64 t1)).setCell ⟨w.heap.size, 3, none⟩ (.int .i64 t2)).setCell ⟨w.heap.size, 4, none⟩ (.int .i64 t3)).setCell ⟨w.heap.size, 5, none⟩ (.int .i64 t4)).setCell ⟨w.heap.size, 6, none⟩ (.int .i64 sz)).setCell ⟨w.heap.size, 7, none⟩ (.slice SA st.length sc)).setCell ⟨w.heap.size, 8, none⟩ (.slice WA Q.length wq)).setCell ⟨w.heap.size, 9, none⟩ (.slice TA (n - a9) tc)) = wf at *
                have g0 : wf.cell? ⟨w.heap.size, 0, none⟩ = some (.int .i64 old) := cell_of_row _ _ 0 _ 32 (0, 0) hr
                have g1 : wf.cell? ⟨w.heap.size, 1, none⟩ = some (.int .i64 t0) := cell_of_row _ _ 1 _ 32 (0, 0) hr
                have g2 : wf.cell? ⟨w.heap.size, 2, none⟩ = some (.int .i64 t1) := cell_of_row _ _ 2 _ 32 (0, 0) hr
                have g3 : wf.cell? ⟨w.heap.size, 3, none⟩ = some (.int .i64 t2) := cell_of_row _ _ 3 _ 32 (0, 0) hr
                have g4 : wf.cell? ⟨w.heap.size, 4, none⟩ = some (.int .i64 t3) := cell_of_row _ _ 4 _ 32 (0, 0) hr
                have g5 : wf.cell? ⟨w.heap.size, 5, none⟩ = some (.int .i64 t4) := cell_of_row _ _ 5 _ 32 (0, 0) hr
                have g6 : wf.cell? ⟨w.heap.size, 6, none⟩ = some (.int .i64 sz) := cell_of_row _ _ 6 _ 32 (0, 0) hr
                have g7 : wf.cell? ⟨w.heap.size, 7, none⟩ = some (.slice SA st.length sc) := cell_of_row _ _ 7 _ 32 (0, 0) hr
                have g8 : wf.cell? ⟨w.heap.size, 8, none⟩ = some (.slice WA Q.length wq) := cell_of_row _ _ 8 _ 32 (0, 0) hr
                have g9 : wf.cell? ⟨w.heap.size, 9, none⟩ = some (.slice TA (n - a9) tc) := cell_of_row _ _ 9 _ 32 (0, 0) hr
                have hne : ∀ b, jb ≤ b → b < w22.heap.size → wf.heap[b]? = w22.heap[b]? := fun b hb hlt => (hsame b (by have := HJ21.out.glt; have := HJ21.out.qlt; omega)).trans (HHB.out.block b hlt)
                have hop : OwnP wf (jb + 1) ⟨sz, SA, sc, st, WA, wq, Q⟩ := HOP.out.box fun b hb hlt => hne b (by omega) hlt
                have how : Re.OwnB wf wc.heap.size TA (n - a9) tc (l.drop a9) := ⟨HOWB.out.1, row_hi HOWB.out.2 (fun b hb hlt _ => hne b (by omega) hlt)⟩
                have hcapT := how.cap
                unfold maxLen at hcapT
                have hok : JnOk wf wf.heap.size ⟨old, ⟨t0, t1, t2, t3, t4⟩, ⟨sz, SA, sc, st, WA, wq, Q⟩, TA, tc, l.drop a9⟩ :=
                  ⟨hop.read HY.out (by rw [HL.out]; omega) (HPL.out.trans HN10.out) rfl, how.rd, by simp only [HLD.out]; omega, (fun h => by simp only [HLD.out]; first | exact how.none h | exact ⟨by trivial, (how.none h).2⟩), HOLD.out⟩
                refine bodyPost_ret (v := .tuple #[.agg #[.int .i64 old, .int .i64 t0, .int .i64 t1, .int .i64 t2, .int .i64 t3, .int .i64 t4, .int .i64 sz, .slice SA st.length sc, .slice WA Q.length wq, .slice TA (n - a9) tc], .int .i64 0]) (by simp [results, Tryz.results8, go_sem, g0, g1, g2, g3, g4, g5, g6, g7, g8, g9]) rfl ?_
                exact ⟨.inl ⟨_, HPE.out, mayJB_is.1 HMB.out, by unfold JnV.cells; simp only [HLD.out], hok⟩, hbw⟩
    · have HOS := Lib.hid hos
      obtain ⟨zz, hz5, hout⟩ : ∃ zz : Int, (zz = 4 ∨ zz = 5) ∧ outS ((l.drop 4).take 64) = (sup0, zz) := by
        rcases hout with h | h
        · exact ⟨4, .inl rfl, h⟩
        · exact ⟨5, .inr rfl, h⟩
      rw [hout] at hcall
      unfold sup0 Re.Sup.cells at hcall
      simp only at hcall
      clear hos hout
      have hzz : (zz != 0) = true := by rcases hz5 with rfl | rfl <;> rfl
      have hzz' : (zz == 0) = false := by rcases hz5 with rfl | rfl <;> rfl
      go_wp2_with fail
      refine hcall.mono ?_
      rintro e w4 ⟨rfl, hb⟩
      have HJ4 := Lib.hid (HJS.out.below hb)
      clear hb hcall HJS HR2
      go_upto_if 36 with (fail)
      have HJ5 := Lib.hid (HJ4.out.below ((Below.refl w4.heap.size w4).alloc (Nat.le_refl _) (.cells #[.int .i64 0, .int .i64 0, .int .i64 0, .int .i64 0, .int .i64 0] 26)))
      generalize w4.alloc (.cells #[.int .i64 0, .int .i64 0, .int .i64 0, .int .i64 0, .int .i64 0] 26) = w5 at *
      have HFAIL : Hid (∀ j, pJour l = some j → ¬ MayJ j) := Lib.hid (fun j hj => by
        rw [HPJ.out, HOS.out] at hj
        cases hj)
      have HGR := Lib.hid HJ5.out.gr
      have e0 : w5.cell? ⟨w.heap.size, 0, none⟩ = some (.int .i64 0) := cell_of_row _ _ 0 _ 32 (0, 0) HJ5.out.b0
      have e1 : w5.cell? ⟨w.heap.size, 1, none⟩ = some (.int .i64 0) := cell_of_row _ _ 1 _ 32 (0, 0) HJ5.out.b0
      have e2 : w5.cell? ⟨w.heap.size, 2, none⟩ = some (.int .i64 0) := cell_of_row _ _ 2 _ 32 (0, 0) HJ5.out.b0
      have e3 : w5.cell? ⟨w.heap.size, 3, none⟩ = some (.int .i64 0) := cell_of_row _ _ 3 _ 32 (0, 0) HJ5.out.b0
      have e4 : w5.cell? ⟨w.heap.size, 4, none⟩ = some (.int .i64 0) := cell_of_row _ _ 4 _ 32 (0, 0) HJ5.out.b0
      have e5 : w5.cell? ⟨w.heap.size, 5, none⟩ = some (.int .i64 0) := cell_of_row _ _ 5 _ 32 (0, 0) HJ5.out.b0
      have e6 : w5.cell? ⟨w.heap.size, 6, none⟩ = some (.int .i64 0) := cell_of_row _ _ 6 _ 32 (0, 0) HJ5.out.b0
      have e7 : w5.cell? ⟨w.heap.size, 7, none⟩ = some (.slice none 0 0) := cell_of_row _ _ 7 _ 32 (0, 0) HJ5.out.b0
      have e8 : w5.cell? ⟨w.heap.size, 8, none⟩ = some (.slice none 0 0) := cell_of_row _ _ 8 _ 32 (0, 0) HJ5.out.b0
      have e9 : w5.cell? ⟨w.heap.size, 9, none⟩ = some (.slice none 0 0) := cell_of_row _ _ 9 _ 32 (0, 0) HJ5.out.b0
      have f0 : w5.frozen? ⟨w.heap.size, 0, none⟩ = false := frozen_of_row _ _ 0 _ _ HJ5.out.b0
      have f1 : w5.frozen? ⟨w.heap.size, 1, none⟩ = false := frozen_of_row _ _ 1 _ _ HJ5.out.b0
      have f2 : w5.frozen? ⟨w.heap.size, 2, none⟩ = false := frozen_of_row _ _ 2 _ _ HJ5.out.b0
      have f3 : w5.frozen? ⟨w.heap.size, 3, none⟩ = false := frozen_of_row _ _ 3 _ _ HJ5.out.b0
      have f4 : w5.frozen? ⟨w.heap.size, 4, none⟩ = false := frozen_of_row _ _ 4 _ _ HJ5.out.b0
      have f5 : w5.frozen? ⟨w.heap.size, 5, none⟩ = false := frozen_of_row _ _ 5 _ _ HJ5.out.b0
      have f6 : w5.frozen? ⟨w.heap.size, 6, none⟩ = false := frozen_of_row _ _ 6 _ _ HJ5.out.b0
      have f7 : w5.frozen? ⟨w.heap.size, 7, none⟩ = false := frozen_of_row _ _ 7 _ _ HJ5.out.b0
      have f8 : w5.frozen? ⟨w.heap.size, 8, none⟩ = false := frozen_of_row _ _ 8 _ _ HJ5.out.b0
      have f9 : w5.frozen? ⟨w.heap.size, 9, none⟩ = false := frozen_of_row _ _ 9 _ _ HJ5.out.b0
      go_wp2_with fail
      refine bodyPost_ret (v := .tuple #[.agg #[.int .i64 0, .int .i64 0, .int .i64 0, .int .i64 0, .int .i64 0, .int .i64 0, .int .i64 0, .slice none 0 0, .slice none 0 0, .slice none 0 0], .int .i64 4]) (by simp [results, Tryz.results8, go_sem, e0, e1, e2, e3, e4, e5, e6, e7, e8, e9]) rfl ?_
      exact ⟨.inr ⟨HFAIL.out, rfl⟩, (((((((((HGR.out.setCell (Nat.le_refl _) _).setCell (Nat.le_refl _) _).setCell (Nat.le_refl _) _).setCell (Nat.le_refl _) _).setCell (Nat.le_refl _) _).setCell (Nat.le_refl _) _).setCell (Nat.le_refl _) _).setCell (Nat.le_refl _) _).setCell (Nat.le_refl _) _).setCell (Nat.le_refl _) _⟩
end Go.Proofs.YtblibmalommdkaaGreat
