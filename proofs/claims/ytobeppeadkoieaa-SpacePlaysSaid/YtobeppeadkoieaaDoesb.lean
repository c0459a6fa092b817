/-
  What does answers of Free and of Keep: true, and the two stand alike behind it.
-/
import Derived.Test.YtobeppeadkoieaaDoes
namespace Go.Proofs.Ytobeppeadkoieaa
open Go.RowKit
section
variable {w : World} {B sb bu bw p : Nat} {res : Int} {M : Nat}
set_option maxRecDepth 100000 in
set_option maxHeartbeats 3200000 in
theorem does_free (h : St w B sb bu bw p res M) (hM : M ≤ 900000) (no : Int) (hI : I64 no) (L : Option Addr) (n cl : Nat) :
    Calls Try.prog 9 #[.pointer (some ⟨sb, 0, none⟩), .pointer (some ⟨p, 0, none⟩), .agg #[.int .i64 2, .int .i64 no, .slice L n cl]] w fun e w' => e = .returned (.bool true) ∧ St w' B sb bu bw p res (M+1) ∧ Below B w w' := by
  obtain ⟨u, wt, A, c, tk, U, W, T, N, S, Rs, hm, hp⟩ := h
  have hB := hm.base
  have hb : Below w.heap.size w (w.alloc (.cells #[.int .i64 2, .int .i64 no, .slice L n cl] 34)) := (Below.refl _ _).alloc (Nat.le_refl _) _
  have HM := Lib.hid (hm.up hb)
  have HP := Lib.hid hp
  have HB0 := Lib.hid (hb.mono hB)
  have hlu := hp.lu; have hlw := hp.lw; have hlt := hp.lt; have hln := hp.ln; have r0 := hp.r0; have r1 := hp.r1
  have HG := Lib.hid (Cl.new w 2 no L n cl)
  have hGS : ¬ S w.heap.size := fun hS => by have := (hm.sl _ hS).1; omega
  have hGR : ¬ Rs w.heap.size := fun hS => by have := hm.rf.lt _ hS; omega
  by_cases hno : no ∈ U
  · have hux := (hp.uu no).1 hno
    have HNO := Lib.hid hno; have HUX := Lib.hid hux
    clear hm hp hb hno hux
    have HMd := Lib.hid (HM.out.up (drew_below _))
    have HGd := Lib.hid (HG.out.only (X := fun _ => False) (Only.of_below (drew_below _)) id)
    have kg := HGd.out.c1
    have hBd : Below B (w.alloc (.cells #[.int .i64 2, .int .i64 no, .slice L n cl] 34)) (w.alloc (.cells #[.int .i64 2, .int .i64 no, .slice L n cl] 34)).drew := (drew_below _).mono HM.out.base
    have HBd := Lib.hid hBd
    have k0 := HG.out.c1
    clear hBd
    go_enter Try.func9, Try.ntmps9
    go_wp2_with fail
    generalize w.alloc (.cells #[.int .i64 2, .int .i64 no, .slice L n cl] 34) = w0 at *
    generalize w.heap.size = G at *
    go_region_held3 (fun w' => w'.cell? ⟨G, 1, none⟩ = some (.int .i64 no))
      (first | go_keep | (exact kq))
      (first
        | (go_at_call_of 21 (Value.pointer (some ⟨sb, 0, Option.none⟩)); first
            | (refine (Free_yes _ sb bu bw res u wt A c tk N HMr.out.sp no hI HUX.out (by omega)).mono ?_; rintro e w2 ⟨rfl, hs2, hb2, hk2⟩; obtain ⟨hmf, hbf, hof⟩ := HMr.out.prog hs2 hb2 hk2; have kq := (HGq.out.only hof hGS).c1; have HF := Lib.hid hmf; have HBf := Lib.hid hbf)
            | (refine (Free_yes _ sb bu bw res u wt A c tk N HMd.out.sp no hI HUX.out (by omega)).mono ?_; rintro e w1 ⟨rfl, hs1, hb1, hk1⟩; obtain ⟨hm1, hbe, ho1⟩ := HMd.out.prog hs1 hb1 hk1; have HGq := Lib.hid (HGd.out.only ho1 hGS); have kq := HGq.out.c1; have HMp := Lib.hid hm1; have HB1 := Lib.hid hbe))
        | (go_at_call_of 24 (Value.pointer (some ⟨p, 0, Option.none⟩)); first
            | (refine (HMp.out.rf.free_yes no HNO.out (by omega) (by omega)).mono ?_; rintro e w2 ⟨rfl, hr2, ho2⟩; obtain ⟨hmf, hbf⟩ := HMp.out.ref hr2 ho2; have kq := (HGq.out.only ho2 hGR).c1; have HF := Lib.hid hmf; have HBf := Lib.hid hbf)
            | (refine (HMd.out.rf.free_yes no HNO.out (by omega) (by omega)).mono ?_; rintro e w1 ⟨rfl, hr1, ho1⟩; obtain ⟨hm1, hbe⟩ := HMd.out.ref hr1 ho1; have HGq := Lib.hid (HGd.out.only ho1 hGR); have kq := HGq.out.c1; have HMr := Lib.hid hm1; have HB1 := Lib.hid hbe)))
    all_goals
      have HZ := Lib.hid (HB0.out.trans (HBd.out.trans (HB1.out.trans HBf.out)))
      go_wp2_with fail
      go_ret
      exact ⟨rfl, ⟨_, _, _, _, _, _, _, _, _, _, _, HF.out, HP.out.free no HNO.out⟩, HZ.out⟩
  · have hux : u no = false := by
      cases hx : u no with
      | false => rfl
      | true => exact absurd ((hp.uu no).2 hx) hno
    have CF : Hid (∀ q, Calls Try.prog 21 #[.pointer (some ⟨sb, 0, none⟩), .int .i64 no] ((w.alloc (.cells #[.int .i64 2, .int .i64 no, .slice L n cl] 34)).drewN q) fun e w' => e = .returned (.int .i64 6) ∧ ∃ k, w' = (w.alloc (.cells #[.int .i64 2, .int .i64 no, .slice L n cl] 34)).drewN k) := Lib.hid (fun q => (Free_no _ sb bu bw res u wt A c tk N (HM.out.up (belowDrewN (Below.refl _ _) q)).sp no hI hux).mono fun _ _ h => ⟨h.1, q, h.2.symm⟩)
    have CR : Hid (∀ q, Calls Try.prog 24 #[.pointer (some ⟨p, 0, none⟩), .int .i64 no] ((w.alloc (.cells #[.int .i64 2, .int .i64 no, .slice L n cl] 34)).drewN q) fun e w' => e = .returned (.int .i64 6) ∧ ∃ k, w' = (w.alloc (.cells #[.int .i64 2, .int .i64 no, .slice L n cl] 34)).drewN k) := Lib.hid (fun q => ((HM.out.up (belowDrewN (Below.refl _ _) q)).rf.free_no no hno (by omega)).mono fun _ _ h => ⟨h.1, q, h.2.symm⟩)
    have k1 := HG.out.c1
    clear hm hp hb hno hux
    go_enter Try.func9, Try.ntmps9
    go_wp2_with fail
    generalize w.alloc (.cells #[.int .i64 2, .int .i64 no, .slice L n cl] 34) = w0 at *
    go_quiet (first | (go_at_call_of 21 (Value.pointer (some ⟨sb, 0, Option.none⟩)); exact CF.out _) | (go_at_call_of 24 (Value.pointer (some ⟨p, 0, Option.none⟩)); exact CR.out _))
    have hb3 : Below w0.heap.size w0 (w0.drewN nq) := belowDrewN (Below.refl _ _) nq
    have HM3 := Lib.hid (HM.out.up hb3)
    have HB3 := Lib.hid (HB0.out.trans (hb3.mono HM.out.base))
    clear hb3
    go_wp2_with fail
    go_ret
    exact ⟨rfl, ⟨_, _, _, _, _, _, _, _, _, _, _, HM3.out, HP.out.more (Nat.le_succ _)⟩, HB3.out⟩
end
end Go.Proofs.Ytobeppeadkoieaa
