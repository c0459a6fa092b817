/-
  What index.Count answers and leaves.
-/
import Derived.Test.YtpnajbpakeimiaaIWalka
import Derived.Test.YtpnajbpakeimiaaIPlain
namespace Go.Proofs.Ytpnajbpakeimiaa
open Go.RowKit
section
variable {db mb : Nat} {d : Dv} {lo : Int} {N : Nat} {S : Nat → Prop} {F : Option Nat} {xb cb : Nat} {size rd : Int} {n : Nat} {u : Int → Option Int}
set_option maxRecDepth 40000 in
set_option maxHeartbeats 2000000 in
theorem Count_live (w : World) {fb : Nat} (h : Dk w db mb d lo N S (some fb) none 0 0 []) (hd : d.down = false) (f : Fl) (hdf : d.f = some f) (hI : IxAt w xb cb db f.now.length rd n u) (hxS : ¬ S xb) (hcS : ¬ S cb) (hB : Byt f.now) (hG : Good f.now u) (fr to_ : Nat) (hlt : fr ≤ to_) (hto : to_ ≤ f.now.length) (hr0 : 0 ≤ rd) (hr1 : rd ≤ 549755813888) (hl : f.now.length ≤ 1048576) (hn : n ≤ 549755813888) :
    Calls Try.prog 9 #[.pointer (some ⟨xb, 0, none⟩), .int .i64 fr, .int .i64 to_] w fun e w' => e = .returned (.tuple #[.int .i64 (cnt (seg f.now fr to_)), .int .i64 0]) ∧
      IxAt w' xb cb db f.now.length (run f.now to_ (to_ - fr) fr (u, rd)).2 (n + (to_ - fr)) (run f.now to_ (to_ - fr) fr (u, rd)).1 ∧ Good f.now (run f.now to_ (to_ - fr) fr (u, rd)).1 ∧ Fr w w' (Ix xb cb) (Ix xb cb) := by
  obtain ⟨_, _, c2, _, _⟩ := hI.cells
  have HD := Lib.hid h; have HI := Lib.hid hI; have HG := Lib.hid hG; have HB := Lib.hid hB; have HX := Lib.hid hxS; have HC := Lib.hid hcS; have HDF := Lib.hid hdf
  clear h hI hG hB hxS hcS hdf
  generalize hsz : f.now.length = sz at *
  have HSZ := Lib.hid hsz
  clear hsz
  generalize hfin : run f.now to_ (to_ - fr) fr (u, rd) = fin at *
  have HFIN := Lib.hid hfin
  clear hfin
  have g1 : ¬ to_ < fr := by omega
  have g2 : ¬ sz < to_ := by omega
  have g3 : ¬ ((fr : Int) < 0) := by omega
  go_enter Try.func9, Try.ntmps9
  go_wp2_with fail
  clear c2
  go_loopg [1, 8] (to_ - fr) (fun gh va vb wr => ∃ (p : Nat) (s : (Int → Option Int) × Int) (m fuel : Nat), p + gh = to_ ∧ va = .int .i64 p ∧ vb = .int .i64 (cnt (seg f.now fr p)) ∧ fr ≤ p ∧ p ≤ to_ ∧ m ≤ n + (p - fr) ∧ 0 ≤ s.2 ∧ s.2 ≤ rd + (p - fr : Nat) ∧ Hid (IxAt wr xb cb db sz s.2 m s.1) ∧ Hid (Good f.now s.1) ∧ Hid (Fr w wr (Ix xb cb) (Ix xb cb)) ∧ Hid (to_ - p ≤ fuel ∧ run f.now to_ fuel p s = fin))
  case atStart => exact ⟨fr, (u, rd), n, to_ - fr, by omega, rfl, by simp [seg, cnt_nil], Nat.le_refl _, hlt, by omega, hr0, by simp, HI, HG, Lib.hid (Fr.refl _ _), Lib.hid ⟨Nat.le_refl _, HFIN.out⟩⟩
  case round =>
    obtain ⟨p, s, m, fuel, hgk, rfl, rfl, hfp, hpt, hmn, hs0, hs1, HIr, HGr, HFr, HRN⟩ := hrel
    by_cases hlt2 : p < to_
    · obtain ⟨_, _, c2, _, _⟩ := HIr.out.cells
      go_upto_region 8 with (fail)
      obtain ⟨ch, hch, hc1, hc2⟩ : ∃ ch : Nat, (p : Int) / 64 = (ch : Int) ∧ 64 * ch ≤ p ∧ p < 64 * ch + 64 := ⟨p / 64, by omega, by omega, by omega⟩
      have HCH : Hid (p / 64 = ch) := Lib.hid (by omega)
      rw [hch]
      have q1 : IntKind.i64.wrap ((ch : Int) + 1) = (ch : Int) + 1 := IntWalk.i64_in _ (by omega)
      have q2 : IntKind.i64.wrap (((ch : Int) + 1) * 64) = ((ch : Int) + 1) * 64 := IntWalk.i64_in _ (by omega)
      clear hch
      go_cut [10] (fun v wx => v = .int .i64 (min ((ch + 1) * 64) sz : Nat) ∧ wx = wr)
      case first =>
        go_wp2_with fail
        all_goals go_meet
        all_goals exact ⟨by congr 1; omega, rfl⟩
      case rest =>
      obtain ⟨rfl, rfl⟩ := hcut
      clear q1 q2 c2
      obtain ⟨e1, he1, he2, he3⟩ : ∃ e1 : Nat, min ((ch + 1) * 64) sz = e1 ∧ p < e1 ∧ e1 ≤ sz := ⟨_, rfl, by omega, by omega⟩
      rw [he1]
      have HE1 := Lib.hid he1
      have q3 : IntKind.i64.wrap ((ch : Int) * 64) = (ch : Int) * 64 := IntWalk.i64_in _ (by omega)
      clear he1
      have HNX : Hid (nxt f.now.length to_ p = min e1 to_) := Lib.hid (by unfold nxt; rw [HSZ.out, HCH.out, HE1.out])
      obtain ⟨fuel', rfl⟩ : ∃ k, fuel = k + 1 := ⟨fuel - 1, by have := HRN.out.1; omega⟩
      have HDr : Hid (Dk wc db mb d lo N S (some fb) none 0 0 []) := Lib.hid (HD.out.keep HFr.out.size (fun g hg => (HFr.out.beside g (HD.out.lt g hg) (fun e => e.elim (fun e => HX.out (e ▸ hg)) (fun e => HC.out (e ▸ hg)))).1))
      obtain ⟨_, _, _, _, c4⟩ := HIr.out.cells
      have L0 := HIr.out.map.look (j := (ch : Int)) (by unfold I64; omega)
      have hcA := cnt_seg_le f.now fr p
      by_cases hw : p = 64 * ch ∧ e1 ≤ to_
      · obtain ⟨hw1, hw2⟩ := hw
        have f1 : ((p : Int) == (ch : Int) * 64) = true := by rw [beq_iff_eq]; omega
        have f2 : (e1 : Int) ≤ (to_ : Int) := by omega
        have HW : Hid (whl f.now.length to_ p) := Lib.hid (by unfold whl; rw [HSZ.out, HCH.out, HE1.out]; omega)
        have HNE : Hid (nxt f.now.length to_ p = e1) := Lib.hid (by rw [HNX.out]; omega)
        have hsA := cnt_seg f.now (i := fr) (j := p) (k := e1) hfp (by omega)
        have hcB := cnt_seg_le f.now p e1
        cases hk : s.1 (ch : Int) with
        | some v =>
          rw [hk] at L0
          have hv : v = ((cnt (seg f.now p e1) : Nat) : Int) := by
            have := HGr.out.known HW.out (v := v) (by rw [HCH.out]; exact hk)
            rw [this, HNE.out]
          replace L0 : (Instr.lookup 54 (.map (some cb)) (.int .i64 (ch : Int)) true).run Try.prog wc = .ok (.tuple #[.int .i64 ((cnt (seg f.now p e1) : Nat) : Int), .bool true]) wc := by rw [hv] at L0; exact L0
          have HRUN : Hid (run f.now to_ fuel' e1 s = fin) := Lib.hid (by have := HRN.out.2; rwa [run_known hlt2 HW.out (by rw [HCH.out, hk]; rfl), HNE.out] at this)
          have HA := Lib.hid hsA
          have q4 : IntKind.i64.wrap (((cnt (seg f.now fr p) : Nat) : Int) + ((cnt (seg f.now p e1) : Nat) : Int)) = ((cnt (seg f.now fr e1) : Nat) : Int) := by rw [IntWalk.i64_in _ (by omega)]; omega
          clear hsA hv hk
          generalize cnt (seg f.now fr p) = cA at *
          generalize cnt (seg f.now p e1) = cB at *
          go_wp2_with fail
          go_roundg (to_ - e1)
          case rel => exact ⟨e1, s, m, fuel', by omega, rfl, rfl, by omega, by omega, by omega, hs0, by omega, HIr, HGr, HFr, Lib.hid ⟨by have := HRN.out.1; omega, HRUN.out⟩⟩
          case measure => omega
        | none =>
          rw [hk] at L0
          replace L0 : (Instr.lookup 54 (.map (some cb)) (.int .i64 (ch : Int)) true).run Try.prog wc = .ok (.tuple #[.int .i64 0, .bool false]) wc := L0
          have HRUN : Hid (run f.now to_ fuel' e1 (updN s.1 (ch : Int) (cnt (seg f.now p e1)), s.2 + (e1 - p : Nat)) = fin) := Lib.hid (by have := HRN.out.2; rwa [run_new hlt2 HW.out (by rw [HCH.out, hk]), HNE.out, HCH.out] at this)
          have HGN : Hid (Good f.now (updN s.1 (ch : Int) (cnt (seg f.now p e1)))) := Lib.hid (by
            have := HGr.out.put HW.out (by rw [HSZ.out]; omega)
            rwa [HCH.out, HNE.out] at this)
          have hs3 : 0 ≤ s.2 + ((e1 - p : Nat) : Int) ∧ s.2 + ((e1 - p : Nat) : Int) ≤ rd + ((e1 - fr : Nat) : Int) := by omega
          have q4 : IntKind.i64.wrap (((cnt (seg f.now fr p) : Nat) : Int) + ((cnt (seg f.now p e1) : Nat) : Int)) = ((cnt (seg f.now fr e1) : Nat) : Int) := by rw [IntWalk.i64_in _ (by omega)]; omega
          have HC3 : Hid (cnt ((f.now.drop p).take (e1 - p)) = cnt (seg f.now p e1)) := Lib.hid rfl
          have hLK := look_live wc HDr.out hd f HDF.out HIr.out HB.out p e1 (by omega) (by have := HSZ.out; omega) hs0 (by omega)
          rw [HC3.out, show (p : Int) = (ch : Int) * 64 from by omega] at hLK
          have hmin : min (e1 : Int) (to_ : Int) = e1 := by omega
          have HLK := Lib.hid hLK
          clear hLK
          have hcI : I64 ((cnt (seg f.now p e1) : Nat) : Int) := by unfold I64; omega
          have HS3 := Lib.hid hs3
          clear hsA hk hs3
          generalize cnt (seg f.now fr p) = cA at *
          generalize cnt (seg f.now p e1) = cB at *
          go_wp2_with fail
          refine HLK.out.mono ?_
          rintro e w2 ⟨rfl, hi2, hf2⟩
          have HI2 := Lib.hid hi2
          have HF2 : Hid (Fr w w2 (Ix xb cb) (Ix xb cb)) := Lib.hid (HFr.out.trans hf2)
          obtain ⟨_, _, _, _, c4'⟩ := hi2.cells
          obtain ⟨w3, hrun3, hcm3, hg3⟩ := hi2.map.store (by unfold maxLen; omega) (j := (ch : Int)) (c := (cB : Int)) (by unfold I64; omega) hcI
          have HI3 : Hid (IxAt w3 xb cb db sz (s.2 + ((e1 - p : Nat) : Int)) (m+1) (updN s.1 (ch : Int) cB)) := Lib.hid ⟨(hg3.block _ hi2.lt (fun e => hi2.ne (by injection e with e; exact e.symm))).trans hi2.head, hcm3⟩
          have HF3 : Hid (Fr w w3 (Ix xb cb) (Ix xb cb)) := Lib.hid (HF2.out.trans ⟨hg3.os, hg3.tape, hg3.output, hg3.size, fun g hg hn => ⟨hg3.block g hg (fun e => hn (.inr (by injection e))), hn⟩⟩)
          clear HLK hi2 hf2 hcm3 hg3 c4 L0
          go_wp2_with fail
          go_roundg (to_ - e1)
          case rel => exact ⟨e1, _, m+1, fuel', by omega, rfl, rfl, by omega, by omega, by omega, HS3.out.1, HS3.out.2, HI3, HGN, HF3, Lib.hid ⟨by have := HRN.out.1; omega, HRUN.out⟩⟩
          case measure => omega
      · obtain ⟨E2, hE2⟩ : ∃ E2 : Nat, min e1 to_ = E2 := ⟨_, rfl⟩
        have HW : Hid (¬ whl f.now.length to_ p) := Lib.hid (by unfold whl; rw [HSZ.out, HCH.out, HE1.out]; omega)
        have HNE : Hid (nxt f.now.length to_ p = E2) := Lib.hid (by rw [HNX.out]; omega)
        have hE3 : p < E2 ∧ E2 ≤ to_ ∧ E2 ≤ e1 := by omega
        obtain ⟨hE4, hE5, hE6⟩ := hE3
        have hsA := cnt_seg f.now (i := fr) (j := p) (k := E2) hfp (by omega)
        have hcB := cnt_seg_le f.now p E2
        have HRUN : Hid (run f.now to_ fuel' E2 (s.1, s.2 + (E2 - p : Nat)) = fin) := Lib.hid (by have := HRN.out.2; rwa [run_part hlt2 HW.out, HNE.out] at this)
        have hs3 : 0 ≤ s.2 + ((E2 - p : Nat) : Int) ∧ s.2 + ((E2 - p : Nat) : Int) ≤ rd + ((E2 - fr : Nat) : Int) := by omega
        have q4 : IntKind.i64.wrap (((cnt (seg f.now fr p) : Nat) : Int) + ((cnt (seg f.now p E2) : Nat) : Int)) = ((cnt (seg f.now fr E2) : Nat) : Int) := by rw [IntWalk.i64_in _ (by omega)]; omega
        have HC3 : Hid (cnt ((f.now.drop p).take (E2 - p)) = cnt (seg f.now p E2)) := Lib.hid rfl
        have hLK := look_live wc HDr.out hd f HDF.out HIr.out HB.out p E2 (by omega) (by have := HSZ.out; omega) hs0 (by omega)
        rw [HC3.out] at hLK
        have HLK := Lib.hid hLK
        clear hLK
        have HS3 := Lib.hid hs3
        have HFU : Hid (to_ - E2 ≤ fuel') := Lib.hid (by have := HRN.out.1; omega)
        have HMM : Hid (m ≤ n + (E2 - fr)) := Lib.hid (by omega)
        clear hsA hs3
        generalize cnt (seg f.now fr p) = cA at *
        generalize cnt (seg f.now p E2) = cB at *
        generalize (s.1 (ch : Int)).getD 0 = kv at L0
        generalize (s.1 (ch : Int)).isSome = kb at L0
        by_cases hp : p = 64 * ch
        · have f1 : ((p : Int) == (ch : Int) * 64) = true := by rw [beq_iff_eq]; omega
          have hmin : min (e1 : Int) (to_ : Int) = to_ := by omega
          have f2 : ¬ (e1 : Int) ≤ (to_ : Int) := by omega
          obtain rfl : to_ = E2 := by omega
          clear hw hE2 hp
          go_wp2_with fail
          refine HLK.out.mono ?_
          rintro e w2 ⟨rfl, hi2, hf2⟩
          have HI2 := Lib.hid hi2
          have HF2 : Hid (Fr w w2 (Ix xb cb) (Ix xb cb)) := Lib.hid (HFr.out.trans hf2)
          clear hi2 hf2 HLK L0 c4
          go_wp2_with fail
          go_roundg 0
          case rel => exact ⟨_, (s.1, s.2 + ((to_ - p : Nat) : Int)), m, fuel', by omega, rfl, rfl, by omega, by omega, HMM.out, HS3.out.1, HS3.out.2, HI2, HGr, HF2, Lib.hid ⟨HFU.out, HRUN.out⟩⟩
          case measure => omega
        · have f1 : ((p : Int) == (ch : Int) * 64) = false := by rw [beq_eq_false_iff_ne]; omega
          by_cases hee : e1 ≤ to_
          · have f2 : (e1 : Int) ≤ (to_ : Int) := by omega
            have hmin : min (e1 : Int) (to_ : Int) = e1 := by omega
            obtain rfl : e1 = E2 := by omega
            clear hw hE2 hp hee
            go_wp2_with fail
            refine HLK.out.mono ?_
            rintro e w2 ⟨rfl, hi2, hf2⟩
            have HI2 := Lib.hid hi2
            have HF2 : Hid (Fr w w2 (Ix xb cb) (Ix xb cb)) := Lib.hid (HFr.out.trans hf2)
            clear hi2 hf2 HLK L0 c4
            go_wp2_with fail
            go_roundg (to_ - e1)
            case rel => exact ⟨_, (s.1, s.2 + ((e1 - p : Nat) : Int)), m, fuel', by omega, rfl, rfl, by omega, by omega, HMM.out, HS3.out.1, HS3.out.2, HI2, HGr, HF2, Lib.hid ⟨HFU.out, HRUN.out⟩⟩
            case measure => omega
          · have f2 : ¬ (e1 : Int) ≤ (to_ : Int) := by omega
            have hmin : min (e1 : Int) (to_ : Int) = to_ := by omega
            obtain rfl : to_ = E2 := by omega
            clear hw hE2 hp hee
            go_wp2_with fail
            refine HLK.out.mono ?_
            rintro e w2 ⟨rfl, hi2, hf2⟩
            have HI2 := Lib.hid hi2
            have HF2 : Hid (Fr w w2 (Ix xb cb) (Ix xb cb)) := Lib.hid (HFr.out.trans hf2)
            clear hi2 hf2 HLK L0 c4
            go_wp2_with fail
            go_roundg 0
            case rel => exact ⟨_, (s.1, s.2 + ((to_ - p : Nat) : Int)), m, fuel', by omega, rfl, rfl, by omega, by omega, HMM.out, HS3.out.1, HS3.out.2, HI2, HGr, HF2, Lib.hid ⟨HFU.out, HRUN.out⟩⟩
            case measure => omega
    · obtain rfl : p = to_ := by omega
      have HE : Hid (s = fin) := Lib.hid (by have := HRN.out.2; rwa [run_end] at this)
      clear hlt2
      go_wp2_with fail
      go_ret2
      have e := HE.out
      subst e
      exact ⟨rfl, HIr.out.more hmn, HGr.out, HFr.out⟩
end
end Go.Proofs.Ytpnajbpakeimiaa
