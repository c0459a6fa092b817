/-
  What index.Count answers with the power off, of places that are none, and of no index.
-/
import Derived.Test.YtpnajbpakeimiaaIWalka
import Derived.Test.YtpnajbpakeimiaaIPlain
namespace Go.Proofs.Ytpnajbpakeimiaa
open Go.RowKit
theorem Count_nil (w : World) (x y : Int) : Calls Try.prog 9 #[.pointer none, .int .i64 x, .int .i64 y] w fun e w' => e = .returned (.tuple #[.int .i64 0, .int .i64 1]) ∧ w = w' := by
  go_enter Try.func9, Try.ntmps9
  go_wp2_with fail
  go_ret2
  exact ⟨rfl, rfl⟩
section
variable {db mb : Nat} {d : Dv} {lo : Int} {N : Nat} {S : Nat → Prop} {F : Option Nat} {xb cb : Nat} {size rd : Int} {n : Nat} {u : Int → Option Int}
theorem Count_range (w : World) (hI : IxAt w xb cb db size rd n u) (x y : Int) (h : x < 0 ∨ y < x ∨ size < y) : Calls Try.prog 9 #[.pointer (some ⟨xb, 0, none⟩), .int .i64 x, .int .i64 y] w fun e w' => e = .returned (.tuple #[.int .i64 0, .int .i64 2]) ∧ w = w' := by
  obtain ⟨_, _, c2, _, _⟩ := hI.cells
  clear hI
  by_cases h0 : x < 0
  · clear h
    go_enter Try.func9, Try.ntmps9
    go_wp2_with fail
    go_ret2
    exact ⟨rfl, rfl⟩
  · by_cases h1 : y < x
    · clear h
      go_enter Try.func9, Try.ntmps9
      go_wp2_with fail
      go_ret2
      exact ⟨rfl, rfl⟩
    · have h2 : size < y := by omega
      clear h
      go_enter Try.func9, Try.ntmps9
      go_wp2_with fail
      go_ret2
      exact ⟨rfl, rfl⟩
set_option maxRecDepth 40000 in
set_option maxHeartbeats 2000000 in
theorem Count_down (w : World) (h : Dk w db mb d lo N S F none 0 0 []) (hd : d.down = true) (b : List Int) (hI : IxAt w xb cb db b.length rd n u) (hG : Good b u) (fr to_ : Nat) (hlt : fr ≤ to_) (hto : to_ ≤ b.length) (hl : b.length ≤ 1048576) :
    Calls Try.prog 9 #[.pointer (some ⟨xb, 0, none⟩), .int .i64 fr, .int .i64 to_] w fun e w' => (e = .returned (.tuple #[.int .i64 0, .int .i64 8]) ∨ e = .returned (.tuple #[.int .i64 (cnt (seg b fr to_)), .int .i64 0])) ∧ Below w.heap.size w w' := by
  obtain ⟨_, _, c2, _, _⟩ := hI.cells
  have HD := Lib.hid h; have HI := Lib.hid hI; have HG := Lib.hid hG
  clear h hI hG
  generalize hsz : b.length = sz at *
  have HSZ := Lib.hid hsz
  clear hsz
  have g1 : ¬ to_ < fr := by omega
  have g2 : ¬ sz < to_ := by omega
  have g3 : ¬ ((fr : Int) < 0) := by omega
  go_enter Try.func9, Try.ntmps9
  go_wp2_with fail
  clear c2
  go_loopg [1, 8] (to_ - fr) (fun gh va vb wr => ∃ (p : Nat), p + gh = to_ ∧ va = .int .i64 p ∧ vb = .int .i64 (cnt (seg b fr p)) ∧ fr ≤ p ∧ p ≤ to_ ∧ Hid (Below w.heap.size w wr))
  case atStart => exact ⟨fr, by omega, rfl, by simp [seg, cnt_nil], Nat.le_refl _, hlt, Lib.hid (Below.refl _ _)⟩
  case round =>
    obtain ⟨p, hgk, rfl, rfl, hfp, hpt, HBr⟩ := hrel
    by_cases hlt2 : p < to_
    · have HIr := Lib.hid (HI.out.up HBr.out)
      obtain ⟨_, _, c2, _, _⟩ := HIr.out.cells
      go_upto_region 8 with (fail)
      obtain ⟨ch, hch, hc1, hc2⟩ : ∃ ch : Nat, (p : Int) / 64 = (ch : Int) ∧ 64 * ch ≤ p ∧ p < 64 * ch + 64 := ⟨p / 64, by omega, by omega, by omega⟩
      have HCH : Hid (p / 64 = ch) := Lib.hid (by omega)
      rw [hch]
      have q1 : IntKind.i64.wrap ((ch : Int) + 1) = (ch : Int) + 1 := IntWalk.i64_in _ (by omega)
      have q2 : IntKind.i64.wrap (((ch : Int) + 1) * 64) = ((ch : Int) + 1) * 64 := IntWalk.i64_in _ (by omega)
      clear hch
      go_cut [10] (fun v wx => v = .int .i64 (min ((ch + 1) * 64) sz : Nat) ∧ wx = wr)
      case first =>
        go_wp2_with fail
        all_goals go_meet
        all_goals exact ⟨by congr 1; omega, rfl⟩
      case rest =>
      obtain ⟨rfl, rfl⟩ := hcut
      clear q1 q2 c2
      obtain ⟨e1, he1, he2, he3⟩ : ∃ e1 : Nat, min ((ch + 1) * 64) sz = e1 ∧ p < e1 ∧ e1 ≤ sz := ⟨_, rfl, by omega, by omega⟩
      rw [he1]
      have HE1 := Lib.hid he1
      have q3 : IntKind.i64.wrap ((ch : Int) * 64) = (ch : Int) * 64 := IntWalk.i64_in _ (by omega)
      clear he1
      have HNX : Hid (nxt b.length to_ p = min e1 to_) := Lib.hid (by unfold nxt; rw [HSZ.out, HCH.out, HE1.out])
      have HDr : Hid (Dk wc db mb d lo N S F none 0 0 []) := Lib.hid (HD.out.up HBr.out)
      obtain ⟨_, _, _, _, c4⟩ := HIr.out.cells
      have L0 := HIr.out.map.look (j := (ch : Int)) (by unfold I64; omega)
      by_cases hw : p = 64 * ch ∧ e1 ≤ to_
      · obtain ⟨hw1, hw2⟩ := hw
        have f1 : ((p : Int) == (ch : Int) * 64) = true := by rw [beq_iff_eq]; omega
        have f2 : (e1 : Int) ≤ (to_ : Int) := by omega
        have hmin : min (e1 : Int) (to_ : Int) = e1 := by omega
        have HW : Hid (whl b.length to_ p) := Lib.hid (by unfold whl; rw [HSZ.out, HCH.out, HE1.out]; omega)
        have HNE : Hid (nxt b.length to_ p = e1) := Lib.hid (by rw [HNX.out]; omega)
        have hsA := cnt_seg b (i := fr) (j := p) (k := e1) hfp (by omega)
        have hcA := cnt_seg_le b fr p
        have hcB := cnt_seg_le b p e1
        cases hk : u (ch : Int) with
        | some v =>
          rw [hk] at L0
          have hv : v = ((cnt (seg b p e1) : Nat) : Int) := by
            have := HG.out.known HW.out (v := v) (by rw [HCH.out]; exact hk)
            rw [this, HNE.out]
          replace L0 : (Instr.lookup 54 (.map (some cb)) (.int .i64 (ch : Int)) true).run Try.prog wc = .ok (.tuple #[.int .i64 ((cnt (seg b p e1) : Nat) : Int), .bool true]) wc := by rw [hv] at L0; exact L0
          have q4 : IntKind.i64.wrap (((cnt (seg b fr p) : Nat) : Int) + ((cnt (seg b p e1) : Nat) : Int)) = ((cnt (seg b fr e1) : Nat) : Int) := by rw [IntWalk.i64_in _ (by omega)]; omega
          clear hsA hv hk
          generalize cnt (seg b fr p) = cA at *
          generalize cnt (seg b p e1) = cB at *
          go_wp2_with fail
          go_roundg (to_ - e1)
          case rel => exact ⟨e1, by omega, rfl, rfl, by omega, by omega, HBr⟩
          case measure => omega
        | none =>
          rw [hk] at L0
          replace L0 : (Instr.lookup 54 (.map (some cb)) (.int .i64 (ch : Int)) true).run Try.prog wc = .ok (.tuple #[.int .i64 0, .bool false]) wc := L0
          have hLK := look_down wc HDr.out hd HIr.out (p : Int) e1 (by omega) (by omega) (by omega) (by omega)
          rw [show (p : Int) = (ch : Int) * 64 from by omega] at hLK
          have HLK := Lib.hid hLK
          clear hLK hsA hk
          go_wp2_with fail
          refine HLK.out.mono ?_
          rintro e w2 ⟨rfl, hb2⟩
          have HB2 := Lib.hid (below_up HBr.out hb2)
          clear hb2 HLK c4 L0
          go_wp2_with fail
          go_ret2
          exact ⟨.inl rfl, HB2.out⟩
      · obtain ⟨E2, hE2⟩ : ∃ E2 : Nat, min e1 to_ = E2 := ⟨_, rfl⟩
        have hLK := look_down wc HDr.out hd HIr.out (p : Int) E2 (by omega) (by omega) (by omega) (by omega)
        have HLK := Lib.hid hLK
        clear hLK
        generalize (u (ch : Int)).getD 0 = kv at L0
        generalize (u (ch : Int)).isSome = kb at L0
        by_cases hp : p = 64 * ch
        · have f1 : ((p : Int) == (ch : Int) * 64) = true := by rw [beq_iff_eq]; omega
          have hmin : min (e1 : Int) (to_ : Int) = to_ := by omega
          have f2 : ¬ (e1 : Int) ≤ (to_ : Int) := by omega
          obtain rfl : to_ = E2 := by omega
          clear hw hE2 hp
          go_wp2_with fail
          refine HLK.out.mono ?_
          rintro e w2 ⟨rfl, hb2⟩
          have HB2 := Lib.hid (below_up HBr.out hb2)
          clear hb2 HLK L0 c4
          go_wp2_with fail
          go_ret2
          exact ⟨.inl rfl, HB2.out⟩
        · have f1 : ((p : Int) == (ch : Int) * 64) = false := by rw [beq_eq_false_iff_ne]; omega
          by_cases hee : e1 ≤ to_
          · have f2 : (e1 : Int) ≤ (to_ : Int) := by omega
            have hmin : min (e1 : Int) (to_ : Int) = e1 := by omega
            obtain rfl : e1 = E2 := by omega
            clear hw hE2 hp hee
            go_wp2_with fail
            refine HLK.out.mono ?_
            rintro e w2 ⟨rfl, hb2⟩
            have HB2 := Lib.hid (below_up HBr.out hb2)
            clear hb2 HLK L0 c4
            go_wp2_with fail
            go_ret2
            exact ⟨.inl rfl, HB2.out⟩
          · have f2 : ¬ (e1 : Int) ≤ (to_ : Int) := by omega
            have hmin : min (e1 : Int) (to_ : Int) = to_ := by omega
            obtain rfl : to_ = E2 := by omega
            clear hw hE2 hp hee
            go_wp2_with fail
            refine HLK.out.mono ?_
            rintro e w2 ⟨rfl, hb2⟩
            have HB2 := Lib.hid (below_up HBr.out hb2)
            clear hb2 HLK L0 c4
            go_wp2_with fail
            go_ret2
            exact ⟨.inl rfl, HB2.out⟩
    · obtain rfl : p = to_ := by omega
      clear hlt2
      go_wp2_with fail
      go_ret2
      exact ⟨.inr rfl, HBr.out⟩
end
end Go.Proofs.Ytpnajbpakeimiaa
