/-
  That the law IndexDown returns true.
-/
import Derived.Test.YtpnajbpakeimiaaIWalkg
import Derived.BigQuiet
namespace Go.Proofs.Ytpnajbpakeimiaa
open Go.RowKit
set_option maxRecDepth 40000 in
set_option maxHeartbeats 2000000 in
theorem down_walk (A : Option Addr) (m c : Nat) (x0 y0 x y : Int) (w : World) (b : List Int) (hlen : b.length = m) (hr : RdB w w.heap.size A b) (hno : A = none → m = 0 ∧ c = 0) (hB : Byt b) (hx0 : I64 x0) (hy0 : I64 y0) (hx : I64 x) (hy : I64 y) :
    Calls Try.prog 6 #[.slice A m c, .agg #[.int .i64 x0, .int .i64 y0], .agg #[.int .i64 x, .int .i64 y]] w fun e w' => e = .returned (.bool true) ∧ Below w.heap.size w w' := by
  have hbx : Below w.heap.size w ((w.alloc (.cells #[.int .i64 x0, .int .i64 y0] 31)).alloc (.cells #[.int .i64 x, .int .i64 y] 31)) := ((Below.refl _ _).alloc (Nat.le_refl _) _).alloc (by simp) _
  have HBX := Lib.hid hbx
  by_cases hc : (6000 : Int) < m
  · clear hlen hr hno hB hbx
    go_enter Try.func6, Try.ntmps6
    go_wp2_with fail
    refine (awake_any _).mono ?_
    rintro e w1 ⟨rfl, hb1⟩
    have HB1 := Lib.hid (below_up HBX.out hb1)
    clear hb1
    go_wp2_with fail
    refine (awake_any _).mono ?_
    rintro e w2 ⟨rfl, hb2⟩
    have HB2 := Lib.hid (below_up HB1.out hb2)
    clear hb2
    go_wp2_with fail
    go_ret
    exact ⟨rfl, HB2.out⟩
  · by_cases hz : m = 0
    · subst hz
      clear hlen hr hno hB hbx
      go_enter Try.func6, Try.ntmps6
      go_wp2_with fail
      refine (awake_any _).mono ?_
      rintro e w1 ⟨rfl, hb1⟩
      have HB1 := Lib.hid (below_up HBX.out hb1)
      clear hb1
      go_wp2_with fail
      refine (awake_any _).mono ?_
      rintro e w2 ⟨rfl, hb2⟩
      have HB2 := Lib.hid (below_up HB1.out hb2)
      clear hb2
      go_wp2_with fail
      go_ret
      exact ⟨rfl, HB2.out⟩
    · obtain ⟨W0, hW0⟩ : ∃ W0, W0 = (w.alloc (.cells #[.int .i64 x0, .int .i64 y0] 31)).alloc (.cells #[.int .i64 x, .int .i64 y] 31) := ⟨_, rfl⟩
      have HL := Lib.hid hlen; have HR0 := Lib.hid (hr.up hbx); have HNO := Lib.hid hno; have HBY := Lib.hid hB
      have a0 : W0.cell? ⟨w.heap.size, 0, none⟩ = some (.int .i64 x0) := by subst hW0; rw [World.cell?_alloc_lt _ _ _ (by simp), cell_new]; rfl
      have a1 : W0.cell? ⟨w.heap.size, 1, none⟩ = some (.int .i64 y0) := by subst hW0; rw [World.cell?_alloc_lt _ _ _ (by simp), cell_new]; rfl
      have e1 : (w.alloc (.cells #[.int .i64 x0, .int .i64 y0] 31)).heap.size = w.heap.size + 1 := by simp
      have a2 : W0.cell? ⟨w.heap.size + 1, 0, none⟩ = some (.int .i64 x) := by subst hW0; rw [← e1, cell_new]; rfl
      have a3 : W0.cell? ⟨w.heap.size + 1, 1, none⟩ = some (.int .i64 y) := by subst hW0; rw [← e1, cell_new]; rfl
      have hs0 : W0.heap.size = w.heap.size + 2 := by subst hW0; simp
      rw [← hW0] at HBX HR0
      have HA0 := Lib.hid a0; have HA1 := Lib.hid a1; have HA2 := Lib.hid a2; have HA3 := Lib.hid a3; have HW0 := Lib.hid hW0; have HS0 := Lib.hid hs0
      have HX0 := Lib.hid hx0; have HY0 := Lib.hid hy0; have HX := Lib.hid hx; have HY := Lib.hid hy
      clear hlen hr hno hB hbx a0 a1 a2 a3 e1 hW0 hs0 hx0 hy0 hx hy
      have hm0 : ((m : Int) == 0) = false := by rw [beq_eq_false_iff_ne]; omega
      go_enter Try.func6, Try.ntmps6
      go_wp2_with fail
      rw [← HW0.out]
      refine (awake_any _).mono ?_
      rintro e w1 ⟨rfl, hb1⟩
      have HB1 := Lib.hid hb1
      clear hb1
      go_wp2_with fail
      refine (of_any w1 A m c b HL.out (HR0.out.up HB1.out) HNO.out (by omega)).mono ?_
      rintro e w2 ⟨⟨xb, cb, db, mb, fb, S, rfl, hl⟩, hb2⟩
      have HL2 := Lib.hid hl
      have HB2 := Lib.hid (below_up HB1.out hb2)
      have hs2 := hb2.size
      have hs1 := HB1.out.size
      clear hl hb2
      have b0 := (HB2.out.cell (p := ⟨w.heap.size, 0, none⟩) (by have := HS0.out; show w.heap.size < _; omega)).trans HA0.out
      have b1 := (HB2.out.cell (p := ⟨w.heap.size, 1, none⟩) (by have := HS0.out; show w.heap.size < _; omega)).trans HA1.out
      go_wp2_with fail
      refine (LAny w2 HL2.out rfl HBY.out (by have := HL.out; omega) x0 y0 hs2).mono ?_
      rintro e w3 ⟨⟨v1, v2, rfl⟩, ⟨rd, n, u, hl, r0, r1, n1⟩, hb3⟩
      have HL3 := Lib.hid hl
      have HB3 := Lib.hid (HB2.out.trans (hb3.mono hs1))
      have hs3 := hb3.size
      clear hl hb3 b0 b1
      go_wp2_with fail
      refine (Arm_any w3 0 (by omega) (by omega) HL3.out.dk).mono ?_
      rintro e w4 ⟨rfl, hd4, hf4⟩
      have HL4 := Lib.hid (HL3.out.disk hd4 hf4 rfl (by omega))
      have HB4 := Lib.hid (HB3.out.trans ((HL3.out.frB hf4 (by omega)).mono hs1))
      have hs4 := hf4.size
      clear hd4 hf4
      go_wp2_with fail
      refine (Write_goes w4 HL4.out.dk rfl rfl rfl A m c (by omega) (by show (m : Int) ≤ ((b.length : Nat) : Int); have := HL.out; omega)).mono ?_
      rintro e w5 ⟨rfl, hd5, hf5⟩
      have HL5 := Lib.hid (HL4.out.disk hd5 hf5 rfl (by omega))
      have HB5 := Lib.hid (HB4.out.trans ((HL4.out.frB hf5 (by omega)).mono hs1))
      have hs5 := hf5.size
      clear hd5 hf5
      have b2 := (HB5.out.cell (p := ⟨w.heap.size + 1, 0, none⟩) (by have := HS0.out; show w.heap.size + 1 < _; omega)).trans HA2.out
      have b3 := (HB5.out.cell (p := ⟨w.heap.size + 1, 1, none⟩) (by have := HS0.out; show w.heap.size + 1 < _; omega)).trans HA3.out
      by_cases hg : 0 ≤ x ∧ x ≤ y ∧ y ≤ (m : Int)
      · obtain ⟨h0, h1, h2⟩ := hg
        obtain ⟨fr, rfl⟩ := Int.eq_ofNat_of_zero_le h0
        obtain ⟨to_, rfl⟩ := Int.eq_ofNat_of_zero_le (show 0 ≤ y by omega)
        have g1 : ¬ (fr : Int) < 0 := by omega
        have g2 : ¬ (to_ : Int) < (fr : Int) := by omega
        have g3 : ¬ (m : Int) < (to_ : Int) := by omega
        have hft : fr ≤ to_ := by omega
        have htm : to_ ≤ m := by omega
        clear h0 h1 h2
        go_wp2_with fail
        refine (Count_down w5 HL5.out.dk rfl b HL5.out.ix HL5.out.good fr to_ hft (by have := HL.out; omega) (by have := HL.out; omega)).mono ?_
        rintro e w6 ⟨he, hb6⟩
        have HL6 := Lib.hid (HL5.out.up hb6)
        have HB6 := Lib.hid (below_up HB5.out hb6)
        have hs6 := hb6.size
        have b4 := (hb6.cell (p := ⟨w.heap.size + 1, 0, none⟩) (by have := HS0.out; have := HB5.out.size; show w.heap.size + 1 < _; omega)).trans b2
        have b5 := (hb6.cell (p := ⟨w.heap.size + 1, 1, none⟩) (by have := HS0.out; have := HB5.out.size; show w.heap.size + 1 < _; omega)).trans b3
        clear hb6
        have hct := cnt_seg_take b (i := fr) (k := to_) hft
        have hcl := cnt_take_le' b to_
        have q5 : IntKind.i64.wrap (((cnt (b.take to_) : Nat) : Int) - ((cnt (b.take fr) : Nat) : Int)) = ((cnt (seg b fr to_) : Nat) : Int) := by rw [IntWalk.i64_in _ (by omega)]; omega
        clear hct hcl
        have HR6 : Hid (∀ W, Below w6.heap.size w6 W → RdB W W.heap.size A b) := Lib.hid (fun W hW => (HR0.out.up HB6.out).up hW)
        have HT : Hid (∀ (n p : Nat), p ≤ m → Calls Try.prog 10 #[.slice A m c, .int .i64 (p : Int)] (w6.drewN n) fun e w' => e = .returned (.int .i64 (cnt (b.take p))) ∧ ∃ k, w' = w6.drewN k) := Lib.hid (fun n p hp => (RefLine_any A m c p _ b HL.out (HR6.out _ (belowDrewN (Below.refl _ _) n)) hp (by omega)).mono fun _ _ h => ⟨h.1, n, h.2.symm⟩)
        have hfm : fr ≤ m := by omega
        clear b2 b3
        rcases he with rfl | rfl
        all_goals
          go_wp2_with fail
          go_quiet (exact HT.out _ _ (by assumption))
          have HL7 := Lib.hid (HL6.out.up (belowDrewN (Below.refl _ _) nq))
          have HB7 := Lib.hid (below_up HB6.out (belowDrewN (Below.refl _ _) nq))
          have b6 : (w6.drewN nq).cell? ⟨w.heap.size + 1, 0, none⟩ = some (.int .i64 (fr : Int)) := b4
          have b7 : (w6.drewN nq).cell? ⟨w.heap.size + 1, 1, none⟩ = some (.int .i64 (to_ : Int)) := b5
          have hs7 : (w6.drewN nq).heap.size = w6.heap.size := rfl
          clear b4 b5
          generalize w6.drewN nq = w7 at *
          go_wp2_with fail
          refine (Crash_one w7 HL7.out.dk ⟨b, b, true⟩ HL7.out.f rfl).mono ?_
          rintro e w8 ⟨rfl, S8, hd8, hf8⟩
          have HL8 := Lib.hid (HL7.out.disk hd8 hf8 rfl (by omega))
          have hb8 : Below w1.heap.size w7 w8 := HL7.out.frB hf8 (by omega)
          have HB8 := Lib.hid (HB7.out.trans (hb8.mono hs1))
          have hs8 := hf8.size
          have b8 := (hb8.cell (p := ⟨w.heap.size + 1, 0, none⟩) (by have := HS0.out; show w.heap.size + 1 < _; omega)).trans b6
          have b9 := (hb8.cell (p := ⟨w.heap.size + 1, 1, none⟩) (by have := HS0.out; show w.heap.size + 1 < _; omega)).trans b7
          clear hd8 hf8 hb8 b6 b7
          go_wp2_with fail
          refine (LCount w8 HL8.out rfl HBY.out (by have := HL.out; omega) fr to_ hft (by have := HL.out; omega) r0 (by omega) (by omega) (by omega)).mono ?_
          rintro e w9 ⟨rfl, _, hb9⟩
          have HB9 := Lib.hid (HB8.out.trans (hb9.mono hs1))
          clear hb9
          go_wp2_with fail
          go_ret
          exact ⟨rfl, HBX.out.trans (HB9.out.mono HBX.out.size)⟩
      · have hbad : (x < 0 ∨ y < x) ∨ (m : Int) < y := by omega
        have HBAD := Lib.hid hbad
        have HCN := Lib.hid (Count_range w5 HL5.out.ix x y (by have := HL.out; omega))
        clear hbad hg
        go_wp2_with fail
        refine HCN.out.mono ?_
        rintro e w6 ⟨rfl, rfl⟩
        clear HCN
        by_cases k0 : x < 0
        · go_wp2_with fail
          go_ret
          exact ⟨rfl, HBX.out.trans (HB5.out.mono HBX.out.size)⟩
        · by_cases k1 : y < x
          · go_wp2_with fail
            go_ret
            exact ⟨rfl, HBX.out.trans (HB5.out.mono HBX.out.size)⟩
          · have k2 : (m : Int) < y := by have := HBAD.out; omega
            go_wp2_with fail
            go_ret
            exact ⟨rfl, HBX.out.trans (HB5.out.mono HBX.out.size)⟩
end Go.Proofs.Ytpnajbpakeimiaa
