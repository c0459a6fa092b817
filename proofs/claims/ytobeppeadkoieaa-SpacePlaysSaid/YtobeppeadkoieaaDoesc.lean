/-
  What does answers of Keep: true, and the two stand alike behind it.
-/
import Derived.Test.YtobeppeadkoieaaDoesb
import Derived.Deep.AppendLies
namespace Go.Proofs.Ytobeppeadkoieaa
open Go.RowKit
attribute [local go_sem ↓] append_told
theorem lit_own {w : World} {base G : Nat} (hG : w.heap[G]? = some (.cells #[] 3 (0, 0))) (hb : base ≤ G) : w.ownsRow base 3 1 (.slice (some ⟨G, 0, none⟩) 0 0) 0 [] :=
  ⟨rfl, .inr ⟨G, 0, #[], rfl, hb, hG, Nat.le_refl _, by unfold maxLen; omega, rfl, rfl⟩⟩
/-- 'append([]int{}, l...)' told in a world of which the numbers read. -/
theorem told_lit (W : World) (A : Option Addr) (m c : Nat) (l : List Int) (hlen : l.length = m) (hr : RdI W W.heap.size A l) (hno : A = none → m = 0 ∧ c = 0) (hm : m ≤ 1000000) :
    ∃ g k w2, (appTold #[30, 30] 30 #[.slice (some ⟨W.heap.size, 0, none⟩) 0 0, .slice A m c]).run Try.prog (W.alloc (.cells #[] 3)) = .ok (.slice (some ⟨g, 0, none⟩) m k) w2 ∧ OwnI w2 W.heap.size (some ⟨g, 0, none⟩) m k l ∧ Below W.heap.size W w2 ∧ W.heap.size ≤ g := by
  obtain ⟨i0, hi, hz0, hz1, hz2⟩ := info_parts info3
  have hG : (W.alloc (.cells #[] 3)).heap[W.heap.size]? = some (.cells #[] 3 (0, 0)) := heap_alloc_new W _
  have hown := lit_own (base := W.heap.size) hG (Nat.le_refl _)
  have hb0 : Below W.heap.size W (W.alloc (.cells #[] 3)) := (Below.refl _ _).alloc (Nat.le_refl _) _
  cases A with
  | none =>
    obtain ⟨rfl, rfl⟩ := hno rfl
    have hn : l = [] := List.eq_nil_of_length_eq_zero hlen
    subst hn
    have hrun := run_append_owned_none (P := Try.prog) (w := W.alloc (.cells #[] 3)) W.heap.size 30 30 3 i0 1 Try.underlying30 hi _ 0 [] hown
    exact ⟨W.heap.size, 0, _, hrun, ⟨rfl, hown⟩, hb0, Nat.le_refl _⟩
  | some a =>
    obtain ⟨v', w', hrun, h2, h3, h4, h5⟩ := run_append_own_at (P := Try.prog) (W.alloc (.cells #[] 3)) W.heap.size 30 30 3 i0 _ 1 8 Try.underlying30 hi hz0 hz1 hz2 rfl (by decide) (.slice (some ⟨W.heap.size, 0, none⟩) 0 0) 0 [] hown a m c (icells l) (by simp [icells, hlen]) ((hr.alloc (Nat.le_refl _) _).cells' a rfl) (icells_one l) (by unfold maxLen; omega) (by omega) (by simp)
    rw [List.nil_append, Nat.zero_add] at h2
    have hne : ¬ v' = .slice none 0 0 := fun e => by have := (h4.1 e).1; cases this
    rcases h2.2 with ⟨hv, _⟩ | ⟨g, cap, cur, hv, hbg, hg, _⟩
    · exact absurd hv hne
    · subst hv
      exact ⟨g, cap, w', hrun, ⟨hlen, h2⟩, hb0.grown h3 (by simp) (fun k hk => by simp [Value.ownBlock] at hk; omega), hbg⟩
section
variable {w : World} {B sb bu bw p : Nat} {res : Int} {M : Nat}
/-- The copy that was handed to Keep, of which the first numbers are overwritten. -/
structure Cp (w : World) (g n k : Nat) (l : List Int) : Prop where
  lt : g < w.heap.size
  at_ : ∀ j x, k ≤ j → l[j]? = some x → w.cell? ⟨g, j, none⟩ = some (.int .i64 x)
  fr : ∀ j, w.frozen? ⟨g, j, none⟩ = false
theorem Cp.only {w w' : World} {g n k : Nat} {l : List Int} (h : Cp w g n k l) {X : Nat → Prop} (ho : Only w w' X) (hX : ¬ X g) : Cp w' g n k l := by
  have e := ho.rest g h.lt hX
  exact ⟨Nat.lt_of_lt_of_le h.lt ho.size, fun j x hj hx => (World.cell?_of_block (w := w) (a := ⟨g, j, none⟩) e).trans (h.at_ j x hj hx), fun j => (World.frozen?_of_block (w := w) (a := ⟨g, j, none⟩) e).trans (h.fr j)⟩
set_option maxRecDepth 100000 in
set_option maxHeartbeats 3200000 in
theorem does_keep (h : St w B sb bu bw p res M) (hM : M ≤ 900000) (no : Int) (L : Option Addr) (n cl : Nat) (l : List Int) (hl : l.length = n) (hn : n ≤ 40) (hr : RdI w B L l) (hi : ∀ v ∈ l, I64 v) (hnone : L = none → n = 0 ∧ cl = 0) :
    Calls Try.prog 9 #[.pointer (some ⟨sb, 0, none⟩), .pointer (some ⟨p, 0, none⟩), .agg #[.int .i64 4, .int .i64 no, .slice L n cl]] w fun e w' => e = .returned (.bool true) ∧ St w' B sb bu bw p res (M+40) ∧ Below B w w' := by
  obtain ⟨u, wt, A, c, tk, U, W, T, N, S, Rs, hm, hp⟩ := h
  have hB := hm.base
  have hb : Below w.heap.size w (w.alloc (.cells #[.int .i64 4, .int .i64 no, .slice L n cl] 34)) := (Below.refl _ _).alloc (Nat.le_refl _) _
  have HM := Lib.hid (hm.up hb)
  have HP := Lib.hid hp
  have HB0 := Lib.hid (hb.mono hB)
  have hlu := hp.lu; have hlw := hp.lw; have hlt := hp.lt; have hln := hp.ln; have r0 := hp.r0; have r1 := hp.r1
  have HG := Lib.hid (Cl.new w 4 no L n cl)
  have hGS : ¬ S w.heap.size := fun hS => by have := (hm.sl _ hS).1; omega
  have hGR : ¬ Rs w.heap.size := fun hS => by have := hm.rf.lt _ hS; omega
  have k2 := HG.out.c2
  have HL := Lib.hid hl; have HI := Lib.hid hi
  have HR0 : Hid (RdI (w.alloc (.cells #[.int .i64 4, .int .i64 no, .slice L n cl] 34)) B L l) := Lib.hid (hr.below hb hB)
  clear hm hp hb hl hi hr
  obtain ⟨g, ci, w1, hrun, ho1, hb1, hg1⟩ := told_lit (w.alloc (.cells #[.int .i64 4, .int .i64 no, .slice L n cl] 34)) L n cl l HL.out (HR0.out.more HM.out.base) hnone (by omega)
  rw [show (w.alloc (.cells #[.int .i64 4, .int .i64 no, .slice L n cl] 34)).heap.size = w.heap.size + 1 by simp] at hrun
  have HM1 := Lib.hid (HM.out.up hb1)
  have HG1 := Lib.hid (HG.out.only (X := fun _ => False) (Only.of_below hb1) id)
  have HR1 : Hid (RdI w1 B L l) := Lib.hid (HR0.out.below hb1 HM.out.base)
  have HO1 := Lib.hid ho1
  have HB1 := Lib.hid (HB0.out.trans (hb1.mono HM.out.base))
  have hgS : ¬ S g := fun hS => by have := (HM.out.sl _ hS).1; omega
  have hgR : ¬ Rs g := fun hS => by have := HM.out.rf.lt _ hS; omega
  have hGg : w.heap.size ≠ g := by
    have := HG.out.lt; omega
  have HCP : Hid (Cp w1 g n 0 l) := Lib.hid ⟨(row_in ho1 (inA_some.2 rfl)).2, fun j x _ hx => by
      obtain ⟨b, off, e, _, hc⟩ := ho1.rd j x hx
      cases e
      simpa using hc, fun j => ho1.2.frozenAt j⟩
  have hcap1 := ho1.cap
  unfold maxLen at hcap1
  clear ho1 hb1
  have hgB : B ≤ g := by have := HM.out.base; omega
  by_cases hin : ∀ v ∈ l, res ≤ v ∧ v < 1048576
  · have HIN := Lib.hid hin
    clear hin
    go_enter Try.func9, Try.ntmps9
    go_wp2_with fail
    refine (Keep_any _ sb bu bw res u wt A c tk N HM1.out.sp (some ⟨g, 0, none⟩) n ci l HL.out HO1.out.rd (fun b hb => ?_) HIN.out r0 (by omega)).mono ?_
    · have e := inA_some.1 hb
      simp only at e
      subst e
      have h1 := HM.out.sp.lt
      exact ⟨by omega, fun e => by have := (row_in HM.out.sp.row (b := g) e).2; omega⟩
    rintro e w2 ⟨rfl, hs2, hb2, hk2⟩
    obtain ⟨hm2, hB2, ho2⟩ := HM1.out.prog hs2 hb2 hk2
    have HM2 := Lib.hid hm2
    have HG2 := Lib.hid (HG1.out.only ho2 hGS)
    have HCP2 := Lib.hid (HCP.out.only ho2 hgS)
    have HR2 := Lib.hid (HR1.out.below hB2 (Nat.le_refl _))
    have HB2 := Lib.hid (HB1.out.trans hB2)
    have hgS2 : ¬ Sx S w1 w2 g := fun h => h.elim hgS (fun h => by have := HCP.out.lt; omega)
    clear hs2 hb2 hk2 hm2 hB2 ho2
    go_wp2_with fail
    go_loopw [13] (fun i wr => ∃ k : Nat, k ≤ n ∧ i = .int .i64 k ∧ Hid (Cp wr g n k l) ∧ Hid (Only w2 wr (fun b => b = g))) (fun i _ => n - (intOf i).toNat)
    case atStart => exact ⟨0, Nat.zero_le _, rfl, HCP2, Lib.hid (Only.refl _ _)⟩
    case round =>
      obtain ⟨k, hk, rfl, hcp, ho⟩ := hrel
      have hclr := HG2.out.only ho.out hGg
      have kk2 := hclr.c2
      have hBw := ho.out.below HM2.out.base (fun q hq e => by omega)
      have hRr := HR2.out.below hBw (Nat.le_refl _)
      have HRr := Lib.hid hRr
      have HBw := Lib.hid hBw
      by_cases hlt : k < n
      · obtain ⟨x, hx⟩ := get_some l k (by have := HL.out; omega)
        obtain ⟨b, off, rfl, hbb, d0⟩ := hRr k x hx
        have q0 := hcp.out.at_ k x (Nat.le_refl _) hx
        have f0 := hcp.out.fr k
        have hkc : (k : Int) < (n : Int) := by omega
        have HCPn : Hid (∀ q : Nat, Cp ((wr.drewN q).setCell ⟨g, k, none⟩ (.int .i64 (-1))) g n (k+1) l ∧ Only w2 ((wr.drewN q).setCell ⟨g, k, none⟩ (.int .i64 (-1))) (fun b => b = g)) := Lib.hid (fun q => ⟨⟨by have := hcp.out.lt; simpa using this, fun j y hj hy => cells_set (hcp.out.at_ j y (by omega) hy) k (by omega) _, fun j => by have := hcp.out.fr j; simpa using this⟩, ⟨ho.out.os, ho.out.tape, ho.out.output, by have := ho.out.size; simpa using this, fun z hz hzg => (Below.heap_setCell (wr.drewN q) ⟨g, k, none⟩ _ z hzg).trans (ho.out.rest z hz hzg)⟩⟩)
        clear hx hbb hclr hBw hRr
        go_wp2_with fail
        go_quiet (fail)
        have q0' : (wr.drewN nq).cell? ⟨g, k, none⟩ = some (.int .i64 x) := q0
        have f0' : (wr.drewN nq).frozen? ⟨g, k, none⟩ = false := f0
        go_wp2_with fail
        go_roundw
        case rel => exact ⟨k+1, by omega, by go_num, Lib.hid (HCPn.out _).1, Lib.hid (HCPn.out _).2⟩
        case measure => simp [intOf]; omega
      · obtain rfl : k = n := by omega
        clear hlt hclr hBw hRr
        have HM4 := Lib.hid (HM2.out.only ho.out (fun b hb e => by subst e; exact hb.elim hgS2 hgR))
        have HB4 := Lib.hid (HB2.out.trans HBw.out)
        have HLR : Hid (l ≠ [] → ∀ b, inA L b → ¬ Rs b) := Lib.hid (fun hne b hb hR => by
          obtain ⟨x, hx⟩ := get_some l 0 (by cases l with
            | nil => exact absurd rfl hne
            | cons => simp)
          obtain ⟨b2, off2, e2, hb2, _⟩ := HRr.out 0 x hx
          rw [e2] at hb
          have e3 := inA_some.1 hb
          simp only at e3
          have := HM4.out.rl b hR
          omega)
        have HRz := Lib.hid (HRr.out.more HM4.out.base)
        go_wp2_with fail
        refine (HM4.out.rf.keep_ok L k cl l HL.out HRz.out (by omega) HLR.out HIN.out).mono ?_
        rintro e w5 ⟨rfl, hr5, ho5⟩
        obtain ⟨hm5, hB5⟩ := HM4.out.ref hr5 ho5
        have HM5 := Lib.hid hm5
        have HB5 := Lib.hid (HB4.out.trans hB5)
        clear hr5 ho5 hm5 hB5
        go_wp2_with fail
        go_ret
        have hpk := HP.out.keep l HIN.out
        rw [HL.out] at hpk
        exact ⟨rfl, ⟨_, _, _, _, _, _, _, _, _, _, _, HM5.out, hpk.more (by omega)⟩, HB5.out⟩
  · have HIN := Lib.hid hin
    clear hin
    go_enter Try.func9, Try.ntmps9
    go_wp2_with fail
    refine (Keep_bad _ sb bu bw res u wt A c tk N HM1.out.sp (some ⟨g, 0, none⟩) n ci l HL.out HO1.out.rd (by omega) HIN.out).mono ?_
    rintro e w2 ⟨rfl, rfl⟩
    obtain ⟨w2, hw2⟩ : ∃ w2 : World, w2 = w1 := ⟨_, rfl⟩
    subst hw2
    have HM2 := HM1
    have HG2 := HG1
    have HCP2 := HCP
    have HR2 := HR1
    have HB2 := HB1
    have hgS2 := hgS
    go_wp2_with fail
    go_loopw [13] (fun i wr => ∃ k : Nat, k ≤ n ∧ i = .int .i64 k ∧ Hid (Cp wr g n k l) ∧ Hid (Only w2 wr (fun b => b = g))) (fun i _ => n - (intOf i).toNat)
    case atStart => exact ⟨0, Nat.zero_le _, rfl, HCP2, Lib.hid (Only.refl _ _)⟩
    case round =>
      obtain ⟨k, hk, rfl, hcp, ho⟩ := hrel
      have hclr := HG2.out.only ho.out hGg
      have kk2 := hclr.c2
      have hBw := ho.out.below HM2.out.base (fun q hq e => by omega)
      have hRr := HR2.out.below hBw (Nat.le_refl _)
      have HRr := Lib.hid hRr
      have HBw := Lib.hid hBw
      by_cases hlt : k < n
      · obtain ⟨x, hx⟩ := get_some l k (by have := HL.out; omega)
        obtain ⟨b, off, rfl, hbb, d0⟩ := hRr k x hx
        have q0 := hcp.out.at_ k x (Nat.le_refl _) hx
        have f0 := hcp.out.fr k
        have hkc : (k : Int) < (n : Int) := by omega
        have HCPn : Hid (∀ q : Nat, Cp ((wr.drewN q).setCell ⟨g, k, none⟩ (.int .i64 (-1))) g n (k+1) l ∧ Only w2 ((wr.drewN q).setCell ⟨g, k, none⟩ (.int .i64 (-1))) (fun b => b = g)) := Lib.hid (fun q => ⟨⟨by have := hcp.out.lt; simpa using this, fun j y hj hy => cells_set (hcp.out.at_ j y (by omega) hy) k (by omega) _, fun j => by have := hcp.out.fr j; simpa using this⟩, ⟨ho.out.os, ho.out.tape, ho.out.output, by have := ho.out.size; simpa using this, fun z hz hzg => (Below.heap_setCell (wr.drewN q) ⟨g, k, none⟩ _ z hzg).trans (ho.out.rest z hz hzg)⟩⟩)
        clear hx hbb hclr hBw hRr
        go_wp2_with fail
        go_quiet (fail)
        have q0' : (wr.drewN nq).cell? ⟨g, k, none⟩ = some (.int .i64 x) := q0
        have f0' : (wr.drewN nq).frozen? ⟨g, k, none⟩ = false := f0
        go_wp2_with fail
        go_roundw
        case rel => exact ⟨k+1, by omega, by go_num, Lib.hid (HCPn.out _).1, Lib.hid (HCPn.out _).2⟩
        case measure => simp [intOf]; omega
      · obtain rfl : k = n := by omega
        clear hlt hclr hBw hRr
        have HM4 := Lib.hid (HM2.out.only ho.out (fun b hb e => by subst e; exact hb.elim hgS2 hgR))
        have HB4 := Lib.hid (HB2.out.trans HBw.out)
        have HLR : Hid (l ≠ [] → ∀ b, inA L b → ¬ Rs b) := Lib.hid (fun hne b hb hR => by
          obtain ⟨x, hx⟩ := get_some l 0 (by cases l with
            | nil => exact absurd rfl hne
            | cons => simp)
          obtain ⟨b2, off2, e2, hb2, _⟩ := HRr.out 0 x hx
          rw [e2] at hb
          have e3 := inA_some.1 hb
          simp only at e3
          have := HM4.out.rl b hR
          omega)
        have HRz := Lib.hid (HRr.out.more HM4.out.base)
        go_wp2_with fail
        refine (HM4.out.rf.keep_bad L k cl l HL.out HRz.out (by omega) HI.out HIN.out).mono ?_
        rintro e w5 ⟨rfl, q, rfl⟩
        have hb5 : Below wr.heap.size wr (wr.drewN q) := belowDrewN (Below.refl _ _) q
        have HM5 := Lib.hid (HM4.out.up hb5)
        have HB5 := Lib.hid (HB4.out.trans (hb5.mono HM4.out.base))
        clear hb5
        go_wp2_with fail
        go_ret
        exact ⟨rfl, ⟨_, _, _, _, _, _, _, _, _, _, _, HM5.out, HP.out.more (by omega)⟩, HB5.out⟩
end
end Go.Proofs.Ytobeppeadkoieaa
