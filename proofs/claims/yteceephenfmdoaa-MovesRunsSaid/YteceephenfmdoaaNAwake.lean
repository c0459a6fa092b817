/-
  awake: the document's first example.
-/
import Derived.Test.YteceephenfmdoaaNRun
import Derived.Test.YteceephenfmdoaaKWmake
import Derived.Test.YteceephenfmdoaaNSmall
import Derived.Test.YteceephenfmdoaaNLaw
namespace Go.Proofs.Yteceephenfmdoaa
open Go.RowKit
open Sc (RdB OwnB bcells)
theorem ex_target : TargetP exL 128 := by
  refine ⟨⟨fun s hs => ?_, by decide⟩, fun s hs => ?_⟩
  · simp [exL] at hs
    rcases hs with rfl | rfl <;> (unfold Sc.okS; simp)
  · simp [exL] at hs
    rcases hs with rfl | rfl <;> simp
theorem ex_want : wantB exL (riseL 128) [] = ((List.range 64).map fun (i : Nat) => ((i + 64 : Nat) : Int)) ++ ((List.range 64).map fun (i : Nat) => (i : Int)) := by decide
theorem ex_rd (w : World) (g : Nat) (hg : g = w.heap.size) : Sc.Rd (w.alloc (.cells #[.int .i64 0, .int .i64 64, .int .i64 64, .int .i64 0, .int .i64 0, .int .i64 64] 48)) (w.alloc (.cells #[.int .i64 0, .int .i64 64, .int .i64 64, .int .i64 0, .int .i64 0, .int .i64 64] 48)).heap.size (some ⟨g, 0, none⟩) exL := by
  subst hg
  intro k s hs
  match k, hs with
  | 0, hs =>
    simp [exL] at hs; subst hs
    exact ⟨w.heap.size, 0, rfl, by simp, cell_new w _ 48 0, cell_new w _ 48 1, cell_new w _ 48 2⟩
  | 1, hs =>
    simp [exL] at hs; subst hs
    exact ⟨w.heap.size, 0, rfl, by simp, cell_new w _ 48 3, cell_new w _ 48 4, cell_new w _ 48 5⟩
  | k + 2, hs => simp [exL] at hs
set_option maxRecDepth 100000 in
set_option maxHeartbeats 4000000 in
theorem awake_any (w : World) : Calls Try.prog 11 #[] w fun e w' => e = .returned (.bool true) ∧ Below w.heap.size w w' := by
  have hb1 : Below w.heap.size w (w.alloc (.cells #[.int .i64 0, .int .i64 64, .int .i64 64, .int .i64 0, .int .i64 0, .int .i64 64] 48)) := (Below.refl _ _).alloc (Nat.le_refl _) _
  have HB1 := Lib.hid hb1
  have HR1 := Lib.hid (ex_rd w w.heap.size rfl)
  clear hb1
  go_enter Try.func11, Try.ntmps11
  go_wp2_with fail
  generalize w.alloc (.cells #[.int .i64 0, .int .i64 64, .int .i64 64, .int .i64 0, .int .i64 0, .int .i64 64] 48) = W1 at *
  refine (make_ok (some ⟨w.heap.size, 0, none⟩) 2 2 exL 128 1 W1 rfl HR1.out ex_target (by omega) (by omega) (by decide) (by omega)).mono ?_
  rintro e w2 ⟨⟨p, rfl, hp, hm⟩, hb2⟩
  have HB2 := Lib.hid (HB1.out.trans (hb2.mono HB1.out.size))
  have HP := Lib.hid hp
  have HE := Lib.hid (ex_made hm)
  have HQ := Lib.hid (hm.plan (tail := 0) ex_target (by omega) (by decide) (by omega) (by decide))
  have HRUN := Lib.hid (hm.run (orig := riseL 128) (tail := []) ex_target (by decide) (by decide) (by omega))
  clear hb2 hp hm HB1 HR1
  obtain ⟨n, SA, sc, stash, WA, wq, waves⟩ := p
  have hE := HE.out
  simp only [PlV.pln, List.length_map] at hE
  obtain ⟨rfl, hw2, rfl, hsum⟩ := hE
  have HTOT : Hid (totS waves = 2) := Lib.hid (by
    have h1 := sumS_map waves
    rw [hsum] at h1
    rw [totS_eq (by omega), h1]; rfl)
  unfold PlV.cells
  simp only [List.length_cons, List.length_nil, Nat.zero_add]
  have HWL := Lib.hid hw2
  rw [hw2]
  have hb3 : Below w2.heap.size w2 (w2.alloc (.cells #[.int .i64 128, .slice SA 1 sc, .slice WA 2 wq] 32)) := (Below.refl _ _).alloc (Nat.le_refl _) _
  have HB3 := Lib.hid hb3
  have c0 : (w2.alloc (.cells #[.int .i64 128, .slice SA 1 sc, .slice WA 2 wq] 32)).cell? ⟨w2.heap.size, 0, none⟩ = some (.int .i64 128) := cell_new w2 _ 32 0
  have c1 : (w2.alloc (.cells #[.int .i64 128, .slice SA 1 sc, .slice WA 2 wq] 32)).cell? ⟨w2.heap.size, 1, none⟩ = some (.slice SA 1 sc) := cell_new w2 _ 32 1
  have c2 : (w2.alloc (.cells #[.int .i64 128, .slice SA 1 sc, .slice WA 2 wq] 32)).cell? ⟨w2.heap.size, 2, none⟩ = some (.slice WA 2 wq) := cell_new w2 _ 32 2
  have hlt : w2.heap.size < (w2.alloc (.cells #[.int .i64 128, .slice SA 1 sc, .slice WA 2 wq] 32)).heap.size := by simp
  have HP3 := Lib.hid (HP.out.up hb3)
  clear hb3 HE hsum hw2
  go_wp2_with fail
  generalize w2.alloc (.cells #[.int .i64 128, .slice SA 1 sc, .slice WA 2 wq] 32) = W3 at *
  generalize hpb : w2.heap.size = pb at *
  have HPB := Lib.hid hpb
  clear hpb
  have HRC : Hid (∀ (W : World) (rA : Option Addr) (rc : Nat), Below W3.heap.size W3 W → OwnB W W3.heap.size rA 128 rc (riseL 128) → Calls Try.prog 23 #[.agg #[.int .i64 128, .slice SA 1 sc, .slice WA 2 wq], .slice rA 128 rc, .slice none 0 0] W fun e w' => RunR W (wantB exL (riseL 128) []) e w') := Lib.hid (fun W rA rc hb ho => by
    have h := Run_ok ⟨128, SA, sc, [(0, 64)], WA, wq, waves⟩ (riseL 128) [] rA 128 rc none 0 0 W (HP3.out.up hb) HQ.out (riseL_len 128) ho.rd ho.cap (fun e => ho.none e) rfl (Sc.RdB.nil _ _ _) ⟨Nat.le_refl _, by unfold maxLen; omega⟩ (by omega) (by omega) (by have := HWL.out; simp only; omega)
    unfold PlV.cells at h
    simp only [HWL.out] at h
    rw [HRUN.out] at h
    exact h)
  have HTC : Hid (∀ W : World, Below W3.heap.size W3 W → Calls Try.prog 25 #[.agg #[.int .i64 128, .slice SA 1 sc, .slice WA 2 wq]] W fun e w' => e = .returned (.int .i64 2) ∧ Below W.heap.size W w') := Lib.hid (fun W hb => by
    have h := MTotal_any ⟨128, SA, sc, [(0, 64)], WA, wq, waves⟩ W (HP3.out.up hb)
    unfold PlV.cells at h
    simp only [HWL.out, HTOT.out] at h
    exact h)
  have HBW : Hid (Below w.heap.size w W3) := Lib.hid (HB2.out.trans (HB3.out.mono (by have := HB2.out.size; have := HPB.out; omega)))
  clear HP HQ HRUN HTOT HWL HP3 HB2 HB3
  go_cut [3, 4] (fun v x wx => ∃ (A : Option Addr) (m c : Nat), v = .slice A m c ∧ x = .int .i64 0 ∧ Hid (OwnB wx W3.heap.size A m c (wantB exL (riseL 128) []) ∧ Below W3.heap.size W3 wx))
  case first =>
    go_region_held3 (fun w' => w'.cell? ⟨pb, 0, none⟩ = some (.int .i64 128) ∧ w'.cell? ⟨pb, 1, none⟩ = some (.slice SA 1 sc) ∧ w'.cell? ⟨pb, 2, none⟩ = some (.slice WA 2 wq))
      (first | exact ⟨c0, c1, c2⟩ | (exact ⟨(hp4.cell (p := ⟨pb, 0, none⟩) hlt).trans c0, (hp4.cell (p := ⟨pb, 1, none⟩) hlt).trans c1, (hp4.cell (p := ⟨pb, 2, none⟩) hlt).trans c2⟩) | (exact ⟨(hp5.cell (p := ⟨pb, 0, none⟩) hlt).trans c0, (hp5.cell (p := ⟨pb, 1, none⟩) hlt).trans c1, (hp5.cell (p := ⟨pb, 2, none⟩) hlt).trans c2⟩) | (go_keep; done))
      (first
        | (go_at_call_of 36 (Value.int .i64 128); refine (rise_any 128 W3.drew (by omega)).mono ?_; rintro e w4 ⟨⟨rA, rc, rfl, ho4⟩, hb4⟩; have hp4 : Below W3.heap.size W3 w4 := (belowDrewN (Below.refl _ _) 1).trans hb4; have HO4 := Lib.hid ho4)
        | (go_at_call 23; refine (HRC.out w4 rA rc hp4 HO4.out).mono ?_; rintro e w5 ⟨⟨bA, bn, bc, rfl, ho5⟩, hb5⟩; have hp5 : Below W3.heap.size W3 w5 := hp4.trans (hb5.mono hp4.size); have HO5 := Lib.hid (And.intro (ho5.mono hp4.size) hp5))
        | fail)
    all_goals
      clear hb4 ho4 hp4 HO4 hb5 ho5 hp5
      go_wp2_with fail
      go_meet
      exact ⟨bA, bn, bc, rfl, rfl, HO5⟩
  case rest =>
    obtain ⟨A, m, c, rfl, rfl, HC⟩ := hcut
    have hm : m = 128 := by have := HC.out.1.1; rw [ex_want] at this; simp at this; omega
    subst hm
    obtain ⟨b, off, rfl, hb, k0⟩ := HC.out.1.rd 0 64 (by rw [ex_want]; rfl)
    obtain ⟨b', off', e', _, k1⟩ := HC.out.1.rd 64 0 (by rw [ex_want]; rfl)
    cases e'
    have d0 := (HC.out.2.cell (p := ⟨pb, 0, none⟩) hlt).trans c0
    have d1 := (HC.out.2.cell (p := ⟨pb, 1, none⟩) hlt).trans c1
    have d2 := (HC.out.2.cell (p := ⟨pb, 2, none⟩) hlt).trans c2
    clear c0 c1 c2
    rw [Nat.add_zero] at k0
    go_wp2_with fail
    refine (HTC.out _ HC.out.2).mono ?_
    rintro e w6 ⟨rfl, hb6⟩
    have HB6 := Lib.hid ((HBW.out.trans (HC.out.2.mono HBW.out.size)).trans (hb6.mono (by have := HBW.out.size; have := HC.out.2.size; omega)))
    clear hb6 HC
    go_wp2_with fail
    go_ret
    exact ⟨rfl, HB6.out⟩
end Go.Proofs.Yteceephenfmdoaa
