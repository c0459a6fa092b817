/-
  MovesTurned's law: blocks that are put about, and put back by the plan of the other way round, are the original.
-/
import Derived.BigRegion
import Derived.Test.YteceephenfmdoaaNAwake
import Derived.Test.YteceephenfmdoaaNLaw
import Derived.Test.YteceephenfmdoaaMBytes
import Derived.Test.YteceephenfmdoaaLTurnedp
namespace Go.Proofs.Yteceephenfmdoaa
open Go.RowKit
open Sc (RdB OwnB bcells RdBL)
/-- A plan in a box, once more. -/
structure Bxq (W : World) (vb : Nat) (p : PlV) : Prop where
  c : W.heap[vb]? = some (.cells p.cells 32 (0, 0))
  ok : PlOk W W.heap.size p
theorem Bxq.up {W W' : World} {vb : Nat} {p : PlV} (h : Bxq W vb p) (hb : Below W.heap.size W W') : Bxq W' vb p := ⟨(hb.block vb (Array.getElem?_eq_some_iff.1 h.c).1).trans h.c, h.ok.up hb⟩
theorem Bxq.made {W : World} {p : PlV} (h : PlOk W W.heap.size p) : Bxq (W.alloc (.cells p.cells 32)) W.heap.size p := ⟨heap_alloc_new W _, (h.below ((Below.refl _ _).alloc (Nat.le_refl _) _) (Nat.le_refl _)).more (by simp)⟩
theorem Bxq.cells {W : World} {vb : Nat} {n : Int} {SA : Option Addr} {sc : Nat} {stash : List R} {WA : Option Addr} {wq : Nat} {waves : List WvV} (h : Bxq W vb ⟨n, SA, sc, stash, WA, wq, waves⟩) : W.cell? ⟨vb, 0, none⟩ = some (.int .i64 n) ∧ W.cell? ⟨vb, 1, none⟩ = some (.slice SA stash.length sc) ∧ W.cell? ⟨vb, 2, none⟩ = some (.slice WA waves.length wq) :=
  ⟨cell_of_row _ _ 0 _ 32 (0, 0) h.c, cell_of_row _ _ 1 _ 32 (0, 0) h.c, cell_of_row _ _ 2 _ 32 (0, 0) h.c⟩
theorem OwnI.at {w : World} {base g n c : Nat} {l : List Int} (h : OwnI w base (some ⟨g, 0, Option.none⟩) n c l) {i : Nat} (hi : i < n) : (∃ u, w.cell? ⟨g, i, Option.none⟩ = some u) ∧ w.frozen? ⟨g, i, Option.none⟩ = false := by
  rcases h.2.2 with ⟨hv, _⟩ | ⟨g', cap, cur, hv, hb, hg, r1, r2, r3, _⟩
  · cases hv
  · injection hv with ha _ hc
    injection ha with ha
    injection ha with ha
    subst ha; subst hc
    refine ⟨?_, frozen_of_row w g i cur 3 hg⟩
    rw [cell_of_row w g i cur 3 (0, 0) hg]
    exact ⟨_, Array.getElem?_eq_getElem (by omega)⟩
theorem OwnI.form {w : World} {base : Nat} {A : Option Addr} {n cap : Nat} {l : List Int} (h : OwnI w base A n cap l) (hn : 0 < n) : ∃ g, A = some ⟨g, 0, .none⟩ ∧ base ≤ g ∧ g < w.heap.size := by
  rcases h.2.2 with ⟨hv, hn'⟩ | ⟨g, cap', cur, hv, hbg, hg, _⟩
  · omega
  · injection hv with ha _ hc
    exact ⟨g, ha, hbg, (Array.getElem?_eq_some_iff.1 hg).1⟩
theorem grown_more {W wr w1 : World} {g : Nat} (h : W.grownBy wr (some g)) (hb : Below W.heap.size wr w1) : W.grownBy w1 (some g) :=
  ⟨hb.os.trans h.os, hb.tape.trans h.tape, hb.output.trans h.output, Nat.le_trans h.size hb.size, fun i hi hne => (hb.block i hi).trans (h.block i hi hne)⟩
theorem Sc.Own.beside {w w' : World} {base : Nat} {A : Option Addr} {n cap : Nat} {l : List S} (h : Sc.Own w base A n cap l) {g : Nat} (hg : w.grownBy w' (some g)) (hb : g < base) : Sc.Own w' base A n cap l :=
  ⟨h.1, h.2.kept hg (.inr fun hh => by have := h.2.lt g hh; omega)⟩
/-- What a plan that was made and is run needs, without a tail. -/
theorem made_run {l : List S} {N μ : Nat} (hT : TargetP l (N : Int)) (hN : N ≤ 2000) (ht : Sc.tot l ≤ 2000) (hs : ∀ s ∈ l, s.src = 1 → s.at_ + s.len ≤ (0 : Int)) (hm : 1 ≤ μ ∧ μ ≤ 64) {p : PlV} (h : MakeP l μ p.pln) :
    PlanP p.pln (N : Int) ((0 : Nat) : Int) ∧ (∀ orig : List Int, orig.length = N → runF p.pln orig [] = wantB l orig [] ∧ ((wantB l orig []).length : Int) = Sc.tot l) ∧ p.waves.length ≤ 1000000 := by
  refine ⟨h.plan hT (by omega) (by omega) hm (by simpa using hs), fun orig ho => ?_, ?_⟩
  · have hT' : TargetP l orig.length := by rw [ho]; exact hT
    exact ⟨h.run hT' (by simpa using hs) (by omega) (by omega), want_len hT' (by simpa using hs)⟩
  · have hlw := (h.waves hT.may.1 (by omega)).few
    simp only [PlV.pln, List.length_map] at hlw
    unfold blocksN at hlw
    omega
set_option maxRecDepth 100000 in
set_option maxHeartbeats 8000000 in
theorem turned_walk (OA : Option Addr) (on oc : Nat) (QA : Option Addr) (qn qc : Nat) (most : Int) (w : World) (orig0 ord : List Int)
    (ho : orig0.length = on) (hro : RdB w w.heap.size OA orig0) (hoc : on ≤ oc ∧ oc ≤ maxLen) (hno : OA = none → oc = 0) (hq : ord.length = qn) (hrq : RdI w w.heap.size QA ord) (hqi : ∀ x ∈ ord, I64 x) (hm : I64 most) :
    Calls Try.prog 9 #[.slice OA on oc, .slice QA qn qc, .int .i64 most] w fun e w' => e = .returned (.bool true) ∧ Below w.heap.size w w' := by
  obtain ⟨i0, hi, hz0, hz1, hz2⟩ := info_parts Sc.info31
  obtain ⟨k0, ki, kz0, kz1, kz2⟩ := info_parts info3
  have hoc' := hoc
  unfold maxLen at hoc'
  unfold I64 at hm
  obtain ⟨n, hn⟩ : ∃ n : Nat, on / 64 = n := ⟨_, rfl⟩
  obtain ⟨N, hN⟩ : ∃ N : Nat, 64 * n = N := ⟨_, rfl⟩
  have hNo : N ≤ on := by omega
  have q1 : (on : Int).tdiv 64 = (n : Int) := by rw [Int.tdiv_eq_ediv_of_nonneg (by omega)]; omega
  have q2 : IntKind.i64.wrap (n : Int) = (n : Int) := IntWalk.i64_in _ (by omega)
  have HO : Hid ((orig0.take N).length = N) := Lib.hid (by rw [List.length_take]; omega)
  have HRO : Hid (RdB w w.heap.size OA (orig0.take N)) := Lib.hid (fun i x hi => hro i x (by
    rw [List.getElem?_take] at hi
    split at hi
    · exact hi
    · cases hi))
  have HNO : Hid (OA = none → N = 0 ∧ oc = 0) := Lib.hid (fun h => by have := hno h; omega)
  have HOC : Hid (N ≤ oc ∧ oc ≤ maxLen) := Lib.hid ⟨by omega, hoc.2⟩
  have HQ := Lib.hid hq; have HRQ := Lib.hid hrq; have HQI := Lib.hid hqi
  have HNN := Lib.hid hN
  clear ho hro hno hoc hq hrq hqi hn
  by_cases hlg : 30 < n
  · have f1 : decide ((30 : Int) < (n : Int)) = true := decide_eq_true (by omega)
    clear hlg hN
    go_enter Try.func9, Try.ntmps9
    go_wp2_with fail
    refine (awake_any w).mono ?_
    rintro e w1 ⟨rfl, hb1⟩
    have HB1 := Lib.hid hb1
    clear hb1
    go_wp2_with fail
    refine (awake_any w1).mono ?_
    rintro e w2 ⟨rfl, hb2⟩
    have HB2 := Lib.hid (HB1.out.trans (hb2.mono HB1.out.size))
    clear hb2
    go_wp2_with fail
    go_ret
    exact ⟨rfl, HB2.out⟩
  have f1 : decide ((30 : Int) < (n : Int)) = false := decide_eq_false (by omega)
  have hn30 : n ≤ 30 := by omega
  have q3 : IntKind.i64.wrap (64 * (n : Int)) = (N : Int) := by rw [IntWalk.i64_in _ (by omega)]; omega
  have hN2 : N ≤ 2000 := by omega
  have c1 : (0 : Int) ≤ (N : Int) := by omega
  have c2 : (N : Int) ≤ (oc : Int) := by omega
  have e0 := Int.emod_nonneg most (show (64 : Int) ≠ 0 by omega)
  have e1 := Int.emod_lt_of_pos most (show (0 : Int) < 64 by omega)
  obtain ⟨μ, hμ⟩ : ∃ μ : Nat, 1 + most % 64 = (μ : Int) := ⟨(1 + most % 64).toNat, by omega⟩
  have q4 : IntKind.i64.wrap (1 + most % 64) = (μ : Int) := by rw [IntWalk.i64_in _ (by omega)]; exact hμ
  have HMU : Hid (1 ≤ μ ∧ μ ≤ 64) := Lib.hid (by omega)
  clear hlg e0 e1 hμ hN
  go_enter Try.func9, Try.ntmps9
  go_wp2_with fail
  refine (awake_any w).mono ?_
  rintro e w1 ⟨rfl, hb1⟩
  have HB1 := Lib.hid hb1
  clear hb1
  go_wp2_with fail
  go_loopw [8, 9] (fun v i wx => ∃ (k : Nat) (A : Option Addr) (c : Nat), k ≤ n ∧ i = .int .i64 k ∧ v = .slice A k c ∧ Hid (OwnI wx w1.heap.size A k c (nats (List.range k)) ∧ Below w1.heap.size w1 wx)) (fun _ i _ => n - (intOf i).toNat)
  case atStart => exact ⟨0, none, 0, Nat.zero_le _, rfl, rfl, Lib.hid ⟨OwnI.nil _ _, Below.refl _ _⟩⟩
  case round =>
    obtain ⟨k, A, c, hk, rfl, rfl, HC⟩ := hrel
    have hsz : w1.heap.size ≤ wr.heap.size := HC.out.2.size
    have hcap := HC.out.1.cap
    unfold maxLen at hcap
    by_cases hlt : k < n
    · go_wp2_with (at_builtin; refine wpList_append_own _ rfl (.tmp 44) (.tmp 46) 71 rfl w1.heap.size 3 k0 _ 1 8 Try.underlying71 ki kz0 kz1 kz2 rfl (by decide) _ _ _ rfl (HC.out.1.alloc _).2 ⟨wr.heap.size, 0, none⟩ 1 1 (icells [(k : Int)]) rfl rfl (newi_one _ _ _ rfl) (icells_one _) (by unfold maxLen; omega) (by omega) (by simp; omega) ?_)
      intro v' w8 hown' hgrow _
      obtain ⟨⟨A8, c8, hv, hown8⟩, hb8, _, hz8, hcl⟩ := appI_step (K := [(k : Int)]) (m := 1) HC.out.1 HC.out.2 hsz ((Below.refl _ _).alloc (Nat.le_refl _) _) rfl hown' hgrow
      rw [hv]
      have HN8 : Hid (OwnI w8 w1.heap.size A8 (k + 1) c8 (nats (List.range (k + 1))) ∧ Below w1.heap.size w1 w8) := Lib.hid ⟨by rw [List.range_succ, ← nats_snoc]; exact hown8, hb8⟩
      clear hcl hgrow hown' hv hown8 hb8 hz8
      go_wp2_with fail
      go_roundw
      case measure => simp [intOf]; omega
      case rel => exact ⟨k + 1, A8, c8, by omega, by go_num, rfl, HN8⟩
    · obtain rfl : k = n := by omega
      clear hlt hk
      go_upto_block 2 with (fail)
      go_cut [10] (fun _ wx => ∃ P : List Nat, Hid (Put P k ∧ OwnI wx w1.heap.size A k c (nats P) ∧ Below w1.heap.size w1 wx))
      case first =>
        go_wp2_with fail
        go_loopw [10] (fun i wx => ∃ (j : Nat) (P : List Nat), j ≤ k ∧ i = .int .i64 j ∧ Hid (Put P k ∧ OwnI wx w1.heap.size A k c (nats P) ∧ Below w1.heap.size w1 wx)) (fun i _ => k - (intOf i).toNat)
        case atStart => exact ⟨0, List.range k, Nat.zero_le _, rfl, Lib.hid ⟨List.Perm.refl _, HC.out.1, HC.out.2⟩⟩
        case round =>
          clear HC hsz hcap
          obtain ⟨j, P, hj, rfl, HC⟩ := hrel
          by_cases hlq : j < qn
          · by_cases hlj : j < k
            · obtain ⟨v, hv⟩ := Sc.get_some ord j (by rw [HQ.out]; exact hlq)
              have hvi := HQI.out v (List.mem_of_getElem? hv)
              unfold I64 at hvi
              have HB := Lib.hid (HB1.out.trans (HC.out.2.2.mono HB1.out.size))
              obtain ⟨qb, qo, hQA, hqb, d0⟩ := (HRQ.out.up HB.out) j v hv
              subst hQA
              obtain ⟨g, hgA, hgB, hgs⟩ := HC.out.2.1.form (by omega)
              subst hgA
              have E0 := Int.emod_nonneg v (show (k : Int) ≠ 0 by omega)
              have E1 := Int.emod_lt_of_pos v (show (0 : Int) < (k : Int) by omega)
              obtain ⟨q, hq⟩ := Int.eq_ofNat_of_zero_le E0
              have hqk : q < k := by omega
              have HQE := Lib.hid hq
              have hpl := HC.out.1.len
              obtain ⟨x, hx⟩ := Sc.get_some P j (by omega)
              obtain ⟨y, hy⟩ := Sc.get_some P q (by omega)
              have HSW := Lib.hid (HC.out.1.swap hx hy)
              have p0 : wr.cell? ⟨g, j, none⟩ = some (.int .i64 (x : Int)) := by
                obtain ⟨b, o, e, _, h⟩ := HC.out.2.1.rd j x (nats_get hx)
                injection e with e; injection e with e e2; subst e; subst e2; simpa using h
              have p1 : wr.cell? ⟨g, q, none⟩ = some (.int .i64 (y : Int)) := by
                obtain ⟨b, o, e, _, h⟩ := HC.out.2.1.rd q y (nats_get hy)
                injection e with e; injection e with e e2; subst e; subst e2; simpa using h
              have g0 := (HC.out.2.1.at (i := j) hlj).2
              have g1 := (HC.out.2.1.at (i := q) hqk).2
              have HOW := Lib.hid HC.out.2.1
              have HBW := Lib.hid HC.out.2.2
              have j0 : (0 : Int) ≤ (j : Int) := by omega
              have j1 : (j : Int) < (k : Int) := by omega
              have j2 : (0 : Int) ≤ (q : Int) := by omega
              have j3 : (q : Int) < (k : Int) := by omega
              clear hv E0 E1 hq hpl HC hqb
              go_wp2_with fail
              refine (Pick_any v (k : Int) wr (by omega) (by omega) hvi.1 hvi.2).mono ?_
              rw [HQE.out]
              rintro e w9 ⟨rfl, rfl⟩
              clear hvi d0
              go_wp2_with fail
              have HN : Hid (Put ((P.set j y).set q x) k ∧ OwnI ((wr.setCell ⟨g, j, none⟩ (.int .i64 (y : Int))).setCell ⟨g, q, none⟩ (.int .i64 (x : Int))).drew w1.heap.size (some ⟨g, 0, none⟩) k c (nats ((P.set j y).set q x)) ∧ Below w1.heap.size w1 ((wr.setCell ⟨g, j, none⟩ (.int .i64 (y : Int))).setCell ⟨g, q, none⟩ (.int .i64 (x : Int))).drew) := Lib.hid ⟨HSW.out, by
                have h := ((HOW.out.setAt (i := j) hlj (y : Int)).setAt (i := q) hqk (x : Int)).drewN 1
                rw [nats_set, nats_set] at h
                exact h, belowDrewN ((HBW.out.setCell (p := ⟨g, j, none⟩) hgB _).setCell (p := ⟨g, q, none⟩) hgB _) 1⟩
              clear HOW HBW HSW HB
              by_cases hjq : j = q
              · subst hjq
                obtain rfl : x = y := by rw [hx] at hy; injection hy
                clear p1 g1 j2 j3 hx hy
                go_region
                go_wp2_with fail
                go_roundw
                case measure => simp [intOf]; omega
                case rel => exact ⟨j + 1, _, by omega, by go_num, HN⟩
              · have hne : (⟨g, j, none⟩ : Addr) ≠ ⟨g, q, none⟩ := fun e => hjq (by injection e)
                clear hx hy
                go_region
                clear p0 p1 g0 g1
                go_wp2_with fail
                go_roundw
                case measure => simp [intOf]; omega
                case rel => exact ⟨j + 1, _, by omega, by go_num, HN⟩
            · have : j = k := by omega
              have HX : Hid (Put P k ∧ OwnI wr w1.heap.size A k c (nats P) ∧ Below w1.heap.size w1 wr) := HC
              clear HC
              go_wp2_with fail
              go_meet
              exact ⟨P, HX⟩
          · have HX : Hid (Put P k ∧ OwnI wr w1.heap.size A k c (nats P) ∧ Below w1.heap.size w1 wr) := HC
            clear HC
            go_wp2_with fail
            go_meet
            exact ⟨P, HX⟩
      case rest =>
        clear HC hsz hcap
        obtain ⟨P, HC⟩ := hcut
        obtain ⟨Z, hrun, hob⟩ := make_ints k k rfl (by omega) wc.heap.size wc (Nat.le_refl _)
        have HP := Lib.hid HC.out.1
        have hl1 : w1.heap.size ≤ wc.heap.size := HC.out.2.2.size
        have HRP : Hid (RdI (wc.alloc (.cells Z 3)) wc.heap.size A (nats P)) := Lib.hid (HC.out.2.1.rd.alloc (Nat.le_refl _) _)
        have HBZ : Hid (Below w.heap.size w (wc.alloc (.cells Z 3))) := Lib.hid (HB1.out.trans ((HC.out.2.2.alloc hl1 _).mono HB1.out.size))
        have HOB : Hid (OwnI (wc.alloc (.cells Z 3)) wc.heap.size (some ⟨wc.heap.size, 0, none⟩) k k (nats (List.replicate k 0))) := Lib.hid (by rw [← nats_zero]; exact hob)
        have hzs : (wc.alloc (.cells Z 3)).heap.size = wc.heap.size + 1 := by simp
        have HZS := Lib.hid hzs
        have hbw : w.heap.size ≤ wc.heap.size := Nat.le_trans HB1.out.size hl1
        clear hob HC hl1 hzs
        go_wp2_with fail
        clear hrun
        generalize wc.alloc (.cells Z 3) = W2 at *
        generalize wc.heap.size = bg at *
        go_loopw [13, 15] (fun v i wx => ∃ (j : Nat) (B : Option Addr) (c3 : Nat) (L : List Nat), j ≤ k ∧ v = .slice B j c3 ∧ i = .int .i64 j ∧ Hid (Bk P L k j ∧ W2.grownBy wx (some bg) ∧ OwnI wx bg (some ⟨bg, 0, none⟩) k k (nats L) ∧ Sc.Own wx (bg + 1) B j c3 (blkL (P.take j)))) (fun _ i _ => k - (intOf i).toNat)
        case atStart => exact ⟨0, none, 0, List.replicate k 0, Nat.zero_le _, rfl, rfl, Lib.hid ⟨Bk.zero _ _, World.grownBy.refl _ _, HOB.out, Sc.Own.nil _ _⟩⟩
        case round =>
          obtain ⟨j, B, c3, L, hj, rfl, rfl, HC⟩ := hrel
          by_cases hlj : j < k
          · obtain ⟨p, hp⟩ := Sc.get_some P j (by rw [HP.out.len]; exact hlj)
            have hpk := HP.out.lt hp
            obtain ⟨pb, po, hA, hpb, d0⟩ := HRP.out j p (nats_get hp)
            subst hA
            have hpb2 : pb < W2.heap.size := by rw [HZS.out]; omega
            have hneb : pb ≠ bg := by omega
            have d1 : wr.cell? ⟨pb, po + j, none⟩ = some (.int .i64 (p : Int)) := (HC.out.2.1.cell_far ⟨pb, po + j, none⟩ hpb2 (by simp only; intro e; injection e with e; omega)).trans d0
            obtain ⟨⟨u, f0⟩, f1'⟩ := HC.out.2.2.1.at hpk
            have hsz : bg + 1 ≤ wr.heap.size := by have := HC.out.2.1.size; have := HZS.out; omega
            have hWS : W2.heap.size = bg + 1 := HZS.out
            have d2 : (wr.setCell ⟨bg, p, none⟩ (.int .i64 (j : Int))).cell? ⟨pb, po + j, none⟩ = some (.int .i64 (p : Int)) := (World.cell?_of_block (w := wr) (a := ⟨pb, po + j, none⟩) (heap_setCell_other wr ⟨bg, p, none⟩ pb _ hneb)).trans d1
            have HB2 : Hid (Bk P (L.set p j) k (j + 1)) := Lib.hid (HC.out.1.next HP.out hp)
            have HG2 : Hid (W2.grownBy (wr.setCell ⟨bg, p, none⟩ (.int .i64 (j : Int))) (some bg)) := Lib.hid (HC.out.2.1.trans (grown_setCell wr ⟨bg, p, none⟩ _))
            have HI2 : Hid (OwnI (wr.setCell ⟨bg, p, none⟩ (.int .i64 (j : Int))) bg (some ⟨bg, 0, none⟩) k k (nats (L.set p j))) := Lib.hid (by rw [← nats_set]; exact HC.out.2.2.1.setAt hpk _)
            have HT2 : Hid (Sc.Own (wr.setCell ⟨bg, p, none⟩ (.int .i64 (j : Int))) (bg + 1) B j c3 (blkL (P.take j))) := Lib.hid (HC.out.2.2.2.beside (grown_setCell wr ⟨bg, p, none⟩ _) (Nat.lt_succ_self _))
            have hs2 : bg + 1 ≤ (wr.setCell ⟨bg, p, none⟩ (.int .i64 (j : Int))).heap.size := by simpa using hsz
            have HTK : Hid (blkL (P.take j) ++ [⟨0, 64 * (p : Int), 64⟩] = blkL (P.take (j + 1))) := Lib.hid (by rw [blkL_snoc, ← Sc.take_snoc P j p hp])
            have hcap := HC.out.2.2.2.cap
            unfold maxLen at hcap
            have q5 : IntKind.i64.wrap (64 * (p : Int)) = 64 * (p : Int) := IntWalk.i64_in _ (by omega)
            have p0 : (0 : Int) ≤ (p : Int) := by omega
            have p1 : (p : Int) < (k : Int) := by omega
            clear HC d0 hp hpb
            go_wp2_with (at_builtin; refine wpList_append_own _ rfl (.tmp 93) (.tmp 100) 26 rfl (bg + 1) 48 i0 _ 3 24 Try.underlying26 hi hz0 hz1 hz2 rfl (by decide) _ _ _ rfl (HT2.out.alloc _).2 ⟨wr.heap.size, 0, none⟩ 1 1 (Sc.cells [⟨0, 64 * (p : Int), 64⟩]) rfl rfl (Sc.new_one _ ⟨0, 64 * (p : Int), 64⟩ _ (by simp)) (Sc.cells_one_cell _) (by unfold maxLen; omega) (by omega) (by simp; omega) ?_)
            intro v' w8 hown' hgrow _
            obtain ⟨⟨A8, c8, hv, hown8⟩, hb8, _, hz8, hcl⟩ := Sc.app_step HT2.out (Below.refl _ _) hs2 ((Below.refl _ _).alloc (Nat.le_refl _) _) hown' hgrow
            rw [hv]
            have HN8 : Hid (Bk P (L.set p j) k (j + 1) ∧ W2.grownBy w8 (some bg) ∧ OwnI w8 bg (some ⟨bg, 0, none⟩) k k (nats (L.set p j)) ∧ Sc.Own w8 (bg + 1) A8 (j + 1) c8 (blkL (P.take (j + 1)))) := Lib.hid ⟨HB2.out, grown_more HG2.out (by rw [hWS]; exact hb8), ⟨HI2.out.1, (HI2.out.2.alloc _).kept hgrow (.inr fun e => by
              have := HT2.out.2.lt bg e.symm
              omega)⟩, by rw [← HTK.out]; exact hown8⟩
            clear hcl hgrow hown' hv hown8 hb8 hz8 HB2 HG2 HI2 HT2 d1 d2 f0 f1'
            go_wp2_with fail
            go_roundw
            case measure => simp [intOf]; omega
            case rel => exact ⟨j + 1, A8, c8, _, by omega, rfl, by go_num, HN8⟩
          · obtain rfl : j = k := by omega
            clear hlj hj
            have hpt : P.take j = P := List.take_of_length_le (by rw [HP.out.len]; exact Nat.le_refl _)
            have HBK := Lib.hid HC.out.1
            have HBR : Hid (Below w.heap.size w wr) := Lib.hid (HBZ.out.trans ((below_of_grown HC.out.2.1 (Nat.le_refl bg) (by rw [HZS.out]; omega)).mono hbw))
            have HRL : Hid (RdI wr wr.heap.size (some ⟨bg, 0, none⟩) (nats L)) := Lib.hid HC.out.2.2.1.rd
            have HTH : Hid (Sc.Own wr (bg + 1) B j c3 (blkL P)) := Lib.hid (by have h := HC.out.2.2.2; rw [hpt] at h; exact h)
            clear HC hpt
            go_wp2_with fail
            generalize hw3 : wr = w3 at *
            clear hw3
            go_loopw [14, 16] (fun v i wx => ∃ (t : Nat) (B4 : Option Addr) (c4 : Nat), t ≤ j ∧ v = .slice B4 t c4 ∧ i = .int .i64 t ∧ Hid (Below w3.heap.size w3 wx ∧ Sc.Own wx w3.heap.size B4 t c4 (blkL (L.take t)))) (fun _ i _ => j - (intOf i).toNat)
            case atStart => exact ⟨0, none, 0, Nat.zero_le _, rfl, rfl, Lib.hid ⟨Below.refl _ _, Sc.Own.nil _ _⟩⟩
            case round =>
              obtain ⟨t, B4, c4, ht, rfl, rfl, HC⟩ := hrel
              have hsz : w3.heap.size ≤ wr.heap.size := HC.out.1.size
              have hcap := HC.out.2.cap
              unfold maxLen at hcap
              by_cases hlt : t < j
              · obtain ⟨p, hpk, hp, _⟩ := HBK.out.back HP.out hlt
                have d1 : wr.cell? ⟨bg, t, none⟩ = some (.int .i64 (p : Int)) := by
                  obtain ⟨b, o, e, _, h⟩ := (HRL.out.up HC.out.1) t p (nats_get hp)
                  injection e with e; injection e with e e2; subst e; subst e2; simpa using h
                have HTK : Hid (blkL (L.take t) ++ [⟨0, 64 * (p : Int), 64⟩] = blkL (L.take (t + 1))) := Lib.hid (by rw [blkL_snoc, ← Sc.take_snoc L t p hp])
                have q5 : IntKind.i64.wrap (64 * (p : Int)) = 64 * (p : Int) := IntWalk.i64_in _ (by omega)
                clear hp
                go_wp2_with (at_builtin; refine wpList_append_own _ rfl (.tmp 107) (.tmp 114) 26 rfl w3.heap.size 48 i0 _ 3 24 Try.underlying26 hi hz0 hz1 hz2 rfl (by decide) _ _ _ rfl (HC.out.2.alloc _).2 ⟨wr.heap.size, 0, none⟩ 1 1 (Sc.cells [⟨0, 64 * (p : Int), 64⟩]) rfl rfl (Sc.new_one _ ⟨0, 64 * (p : Int), 64⟩ _ rfl) (Sc.cells_one_cell _) (by unfold maxLen; omega) (by omega) (by simp; omega) ?_)
                intro v' w8 hown' hgrow _
                obtain ⟨⟨A8, c8, hv, hown8⟩, hb8, _, hz8, hcl⟩ := Sc.app_step HC.out.2 HC.out.1 hsz ((Below.refl _ _).alloc (Nat.le_refl _) _) hown' hgrow
                rw [hv]
                have HN8 : Hid (Below w3.heap.size w3 w8 ∧ Sc.Own w8 w3.heap.size A8 (t + 1) c8 (blkL (L.take (t + 1)))) := Lib.hid ⟨hb8, by rw [← HTK.out]; exact hown8⟩
                clear hcl hgrow hown' hv hown8 hb8 hz8 d1
                go_wp2_with fail
                go_roundw
                case measure => simp [intOf]; omega
                case rel => exact ⟨t + 1, A8, c8, by omega, rfl, by go_num, HN8⟩
              · obtain rfl : t = j := by omega
                clear hlt ht
                have hlt : L.take t = L := List.take_of_length_le (by rw [HBK.out.1]; exact Nat.le_refl _)
                have HHM : Hid (Sc.Own wr w3.heap.size B4 t c4 (blkL L)) := Lib.hid (by have h := HC.out.2; rw [hlt] at h; exact h)
                have HB4 : Hid (Below w.heap.size w wr) := Lib.hid (HBR.out.trans (HC.out.1.mono HBR.out.size))
                have HTR : Hid (Sc.Rd wr wr.heap.size B (blkL P)) := Lib.hid (Sc.Rd.up HTH.out.rd HC.out.1)
                have HHR : Hid (Sc.Rd wr wr.heap.size B4 (blkL L)) := Lib.hid HHM.out.rd
                have htl : (blkL P).length = t := HTH.out.1
                have hhl : (blkL L).length = t := HHM.out.1
                have HTP : Hid (TargetP (blkL P) (N : Int)) := Lib.hid (by
                  have h := blkL_target hn30 HP.out.len (fun k x hk => HP.out.lt hk)
                  rw [HNN.out] at h; exact h)
                have HTL : Hid (TargetP (blkL L) (N : Int)) := Lib.hid (by
                  have h := blkL_target hn30 HBK.out.1 (fun k x hk => by
                    have hk2 := (List.getElem?_eq_some_iff.1 hk).1
                    rw [HBK.out.1] at hk2
                    obtain ⟨i, hi, hb, _⟩ := HBK.out.back HP.out hk2
                    rw [hk] at hb; injection hb with hb; omega)
                  rw [HNN.out] at h; exact h)
                have htt : Sc.tot (blkL P) = (N : Int) := by rw [blkL_tot, HP.out.len]; have := HNN.out; omega
                have hht : Sc.tot (blkL L) = (N : Int) := by rw [blkL_tot, HBK.out.1]; have := HNN.out; omega
                have HFIN : Hid (wantB (blkL L) (wantB (blkL P) (orig0.take N) []) [] = orig0.take N) := Lib.hid (turned_plain HP.out HBK.out (by rw [HO.out, HNN.out]))
                have HTT := Lib.hid htt; have HHT := Lib.hid hht; have HLT := Lib.hid htl; have HLH := Lib.hid hhl
                have HSRC := Lib.hid (fun n => @blkL_src P n)
                have HSRL := Lib.hid (fun n => @blkL_src L n)
                generalize blkL P = there at *
                generalize blkL L = home at *
                clear HC hlt HHM HRL HTH HBR HP HBK htt hht htl hhl hsz HRP HBZ HOB
                go_wp2_with fail
                refine (Pick_any most 64 wr (by omega) (by omega) hm.1 hm.2).mono ?_
                rintro e w5 ⟨rfl, rfl⟩
                go_wp2_with fail
                refine (make_ok B t c3 there (N : Int) μ wr HLT.out HTR.out HTP.out (by omega) HMU.out (by rw [HTT.out]; omega) (by omega)).mono ?_
                rintro e w4 ⟨⟨p, rfl, hp, hmk⟩, hb4⟩
                obtain ⟨hpl, hrn, hwl⟩ := made_run HTP.out hN2 (by rw [HTT.out]; omega) (HSRC.out 0) HMU.out hmk
                have HPL := Lib.hid hpl
                obtain ⟨hr1, hr2⟩ := hrn (orig0.take N) HO.out
                have HRN := Lib.hid hr1
                have HXL : Hid ((wantB there (orig0.take N) []).length = N) := Lib.hid (by rw [HTT.out] at hr2; omega)
                have HBX : Hid (Bxq (w4.alloc (.cells p.cells 32)) w4.heap.size p) := Lib.hid (Bxq.made hp)
                have hb6 : Below wr.heap.size wr (w4.alloc (.cells p.cells 32)) := hb4.trans (((Below.refl _ _).alloc (Nat.le_refl _) _).mono hb4.size)
                have HB6 := Lib.hid (HB4.out.trans (hb6.mono HB4.out.size))
                have HH6 := Lib.hid (Sc.Rd.up HHR.out hb6)
                clear hpl hrn hr1 hr2 hp hmk hb4 hb6 HB4 HHR HTR
                obtain ⟨zn, SA, sc, stash, WA, wq, waves⟩ := p
                unfold PlV.cells at *
                simp only at hwl
                obtain ⟨e0, e1, e2⟩ := HBX.out.cells
                go_wp2_with fail
                generalize w4.alloc (.cells #[.int .i64 zn, .slice SA stash.length sc, .slice WA waves.length wq] 32) = W6 at *
                refine (Run_ok ⟨zn, SA, sc, stash, WA, wq, waves⟩ (orig0.take N) [] OA N oc none 0 0 W6 HBX.out.ok HPL.out HO.out (HRO.out.up HB6.out) HOC.out HNO.out rfl (fun _ _ hs => by simp at hs) ⟨Nat.le_refl _, by unfold maxLen; omega⟩ (by omega) (by omega) hwl).mono ?_
                rw [HRN.out]
                rintro e w7 ⟨⟨GA, gn, gc, rfl, ho7⟩, hb7⟩
                obtain rfl : N = gn := HXL.out.symm.trans ho7.1
                have HB7 := Lib.hid (HB6.out.trans (hb7.mono HB6.out.size))
                have HH7 := Lib.hid (Sc.Rd.up HH6.out hb7)
                have HGR := Lib.hid ho7.rd
                have HGN : Hid (GA = none → N = 0 ∧ gc = 0) := Lib.hid ho7.none
                have HGC : Hid (N ≤ gc ∧ gc ≤ maxLen) := Lib.hid ho7.cap
                clear ho7 hb7 HB6 HH6 HBX HPL e0 e1 e2 HRN hwl
                go_wp2_with fail
                refine (make_ok B4 t c4 home (N : Int) μ w7 HLH.out HH7.out HTL.out (by omega) HMU.out (by rw [HHT.out]; omega) (by omega)).mono ?_
                rintro e w8 ⟨⟨p, rfl, hp, hmk⟩, hb8⟩
                obtain ⟨hpl, hrn, hwl⟩ := made_run HTL.out hN2 (by rw [HHT.out]; omega) (HSRL.out 0) HMU.out hmk
                have HPL := Lib.hid hpl
                obtain ⟨hr1, hr2⟩ := hrn (wantB there (orig0.take N) []) HXL.out
                rw [HFIN.out] at hr1
                have HRN := Lib.hid hr1
                have HBX : Hid (Bxq (w8.alloc (.cells p.cells 32)) w8.heap.size p) := Lib.hid (Bxq.made hp)
                have hb9 : Below w7.heap.size w7 (w8.alloc (.cells p.cells 32)) := hb8.trans (((Below.refl _ _).alloc (Nat.le_refl _) _).mono hb8.size)
                have HB9 := Lib.hid (HB7.out.trans (hb9.mono HB7.out.size))
                have HG9 := Lib.hid (HGR.out.up hb9)
                clear hpl hrn hr1 hr2 hp hmk hb8 hb9 HB7 HH7 HGR
                obtain ⟨zn2, SA2, sc2, stash2, WA2, wq2, waves2⟩ := p
                unfold PlV.cells at *
                simp only at hwl
                obtain ⟨e0, e1, e2⟩ := HBX.out.cells
                go_wp2_with fail
                generalize w8.alloc (.cells #[.int .i64 zn2, .slice SA2 stash2.length sc2, .slice WA2 waves2.length wq2] 32) = W9 at *
                refine (Run_ok ⟨zn2, SA2, sc2, stash2, WA2, wq2, waves2⟩ (wantB there (orig0.take N) []) [] GA N gc none 0 0 W9 HBX.out.ok HPL.out HXL.out HG9.out HGC.out HGN.out rfl (fun _ _ hs => by simp at hs) ⟨Nat.le_refl _, by unfold maxLen; omega⟩ (by omega) (by omega) hwl).mono ?_
                rw [HRN.out]
                rintro e w10 ⟨⟨YA, yn, yc, rfl, ho10⟩, hb10⟩
                obtain rfl : N = yn := HO.out.symm.trans ho10.1
                have HB10 := Lib.hid (HB9.out.trans (hb10.mono HB9.out.size))
                have HYR := Lib.hid ho10.rd
                have HYC : Hid (N ≤ yc ∧ yc ≤ maxLen) := Lib.hid ho10.cap
                clear ho10 hb10 HB9 HG9 HBX HPL e0 e1 e2 HRN hwl
                go_wp2_with fail
                refine (Sc.SameB_true YA N yc OA N oc w10 (orig0.take N) HO.out HYR.out (by omega) rfl (HRO.out.up HB10.out)).mono ?_
                rintro e w11 ⟨rfl, hb11⟩
                have HB11 := Lib.hid (HB10.out.trans (hb11.mono HB10.out.size))
                clear hb11
                go_wp2_with fail
                go_ret
                exact ⟨rfl, HB11.out⟩
end Go.Proofs.Yteceephenfmdoaa
