/-
  That the law IndexCounts returns true.
-/
import Derived.Test.YtpnajbpakeimiaaIWalkf
import Derived.Deep.LoopGhost
import Derived.BigQuiet
namespace Go.Proofs.Ytpnajbpakeimiaa
open Go.RowKit
theorem Own.frS {w w' : World} {base n c : Nat} {A : Option Addr} {l : List R} {S S' : Nat → Prop} (h : Own w base A n c l) (hf : Fr w w' S S') (hS : ∀ g, base ≤ g → ¬ S g) : Own w' base A n c l := by
  obtain ⟨h0, h1, h2⟩ := h
  refine ⟨h0, h1, ?_⟩
  rcases h2 with h2 | ⟨g, cap, cur, hv, hb, hg, r⟩
  · exact .inl h2
  · exact .inr ⟨g, cap, cur, hv, hb, ((hf.beside g (Array.getElem?_eq_some_iff.1 hg).1 (hS g hb)).1).trans hg, r⟩
theorem LCountF {B : Nat} {b : List Int} {xb cb db mb fb : Nat} {S : Nat → Prop} {d : Dv} {rd : Int} {n : Nat} {u : Int → Option Int} (w : World) (h : Live B w b xb cb db mb fb S d rd n u) (hd : d.down = false) (hB : Byt b) (hl : b.length ≤ 1048576) (fr to_ : Nat) (h1 : fr ≤ to_) (h2 : to_ ≤ b.length) (hr0 : 0 ≤ rd) (hr1 : rd ≤ 549755813888) (hn : n ≤ 549755813888) :
    Calls Try.prog 9 #[.pointer (some ⟨xb, 0, none⟩), .int .i64 fr, .int .i64 to_] w fun e w' => e = .returned (.tuple #[.int .i64 (cnt (seg b fr to_)), .int .i64 0]) ∧
      Live B w' b xb cb db mb fb S d (run b to_ (to_ - fr) fr (u, rd)).2 (n + (to_ - fr)) (run b to_ (to_ - fr) fr (u, rd)).1 ∧ Fr w w' (Ix xb cb) (Ix xb cb) := by
  refine (Count_live w h.dk hd ⟨b, b, true⟩ h.f h.ix h.xS h.cS hB h.good fr to_ h1 h2 hr0 hr1 hl hn).mono ?_
  rintro e w' ⟨rfl, hi, hg, hf⟩
  exact ⟨rfl, h.went hf hi hg, hf⟩
/-- The chunks that a question asks whole. -/
def wh (size : Nat) (fr to_ : Nat) : R := ((((fr + 63) / 64 : Nat) : Int), (((if to_ = size then (to_ + 63) / 64 else to_ / 64 : Nat)) : Int))
theorem in_wh (size fr to_ : Nat) (h1 : fr ≤ to_) (h2 : to_ ≤ size) (c : Nat) : ((wh size fr to_).1 ≤ (c : Int) ∧ (c : Int) < (wh size fr to_).2) ↔ (fr ≤ 64 * c ∧ min (64 * c + 64) size ≤ to_ ∧ 64 * c < to_) := by
  unfold wh
  simp only
  split <;> omega
theorem wh_ir {size fr to_ : Nat} (h1 : fr ≤ 1099511627776) (h2 : to_ ≤ 1099511627776) : I64 (wh size fr to_).1 ∧ I64 (wh size fr to_).2 := by
  unfold wh I64
  simp only
  split <;> omega
theorem known_nl {K : List R} {u : Int → Option Int} (hk : ∀ c : Nat, (u c).isSome = true ↔ In K c) {l : List R} (h : Is l (fun x => 0 ≤ x ∧ (u x).isSome = true)) : l = mixR 0 K [] := by
  rw [mix_nl]
  refine h.uniq (nl_is K) fun x => ?_
  constructor
  · rintro ⟨h0, h1⟩
    obtain ⟨c, rfl⟩ := Int.eq_ofNat_of_zero_le h0
    exact ⟨h0, (hk c).1 h1⟩
  · rintro ⟨h0, h1⟩
    obtain ⟨c, rfl⟩ := Int.eq_ofNat_of_zero_le h0
    exact ⟨h0, (hk c).2 h1⟩
theorem Live.keepW {B W : Nat} {w w' : World} {b : List Int} {xb cb db mb fb : Nat} {S : Nat → Prop} {d : Dv} {rd : Int} {n : Nat} {u : Int → Option Int} (h : Live B w b xb cb db mb fb S d rd n u) (hb : Below W w w') (xw : xb < W) (cw : cb < W) (sw : ∀ g, S g → g < W) : Live B w' b xb cb db mb fb S d rd n u :=
  ⟨h.dk.keep hb.size fun g hg => hb.block g (sw g hg), h.f, h.ix.keep (hb.block _ xw) (hb.block _ cw), h.good, h.xS, h.cS, h.low, h.xB, h.cB⟩
theorem keys_snoc {K : List R} {rr : R} {u u' : Int → Option Int} {fr to_ m : Nat} (hk : ∀ j : Nat, (u j).isSome = true ↔ In K j) (hkk : ∀ c : Nat, (u' c).isSome = true ↔ (u c).isSome = true ∨ (fr ≤ 64 * c ∧ min (64 * c + 64) m ≤ to_ ∧ 64 * c < to_)) (hin : ∀ c : Nat, (rr.1 ≤ (c : Int) ∧ (c : Int) < rr.2) ↔ (fr ≤ 64 * c ∧ min (64 * c + 64) m ≤ to_ ∧ 64 * c < to_)) : ∀ j : Nat, (u' j).isSome = true ↔ In (K ++ [rr]) j := fun j => by
  rw [hkk, hk, ← hin, in_append, in_one]
/-- What holds ahead of each question. -/
structure CR (w wr : World) (B W : Nat) (b : List Int) (xb cb db mb fb : Nat) (S : Nat → Prop) (d : Dv) (rd : Int) (n : Nat) (u : Int → Option Int) (A : Option Addr) (c : Nat) (K : List R) (k : Nat) : Prop where
  live : Live B wr b xb cb db mb fb S d rd n u
  rd0 : 0 ≤ rd
  rd1 : rd ≤ 6000 * k
  n1 : n ≤ 6000 * k
  row : Own wr W A K.length c K
  kl : K.length ≤ k
  ir : IR K
  keys : ∀ j : Nat, (u j).isSome = true ↔ In K j
  low : Below w.heap.size w wr
  bw : B ≤ wr.heap.size
  wb : w.heap.size ≤ B
  ws : W ≤ wr.heap.size
  xw : xb < W
  cw : cb < W
  sw : ∀ g, S g → g < W
theorem CR.next {w wr : World} {B W : Nat} {b : List Int} {xb cb db mb fb : Nat} {S : Nat → Prop} {d : Dv} {rd : Int} {n : Nat} {u : Int → Option Int} {A : Option Addr} {c : Nat} {K : List R} {k : Nat} (h : CR w wr B W b xb cb db mb fb S d rd n u A c K k) : CR w wr B W b xb cb db mb fb S d rd n u A c K (k+1) :=
  ⟨h.live, h.rd0, by have := h.rd1; omega, by have := h.n1; omega, h.row, by have := h.kl; omega, h.ir, h.keys, h.low, h.bw, h.wb, h.ws, h.xw, h.cw, h.sw⟩
theorem CR.up {w wr w' : World} {B W : Nat} {b : List Int} {xb cb db mb fb : Nat} {S : Nat → Prop} {d : Dv} {rd : Int} {n : Nat} {u : Int → Option Int} {A : Option Addr} {c : Nat} {K : List R} {k : Nat} (h : CR w wr B W b xb cb db mb fb S d rd n u A c K k) (hb : Below wr.heap.size wr w') : CR w w' B W b xb cb db mb fb S d rd n u A c K k :=
  ⟨h.live.up hb, h.rd0, h.rd1, h.n1, h.row.up hb, h.kl, h.ir, h.keys, h.low.trans (hb.mono h.low.size), by have := hb.size; have := h.bw; omega, h.wb, by have := hb.size; have := h.ws; omega, h.xw, h.cw, h.sw⟩
set_option maxRecDepth 40000 in
set_option maxHeartbeats 2000000 in
theorem counts_walk (A : Option Addr) (m c : Nat) (A2 : Option Addr) (m2 c2 : Nat) (w : World) (b : List Int) (asks : List R) (hlen : b.length = m) (hr : RdB w w.heap.size A b) (hno : A = none → m = 0 ∧ c = 0) (hB : Byt b)
    (hlen2 : asks.length = m2) (hr2 : Rd w w.heap.size A2 asks) (hI2 : IR asks) (hm2 : m2 ≤ 9223372036854775807) :
    Calls Try.prog 3 #[.slice A m c, .slice A2 m2 c2] w fun e w' => e = .returned (.bool true) ∧ Below w.heap.size w w' := by
  by_cases hc : (6000 : Int) < m
  · clear hlen hr hno hB hlen2 hr2 hI2
    go_enter Try.func3, Try.ntmps3
    go_wp2_with fail
    refine (awake_any w).mono ?_
    rintro e w1 ⟨rfl, hb1⟩
    have HB1 := Lib.hid hb1
    clear hb1
    go_wp2_with fail
    refine (awake_any _).mono ?_
    rintro e w2 ⟨rfl, hb2⟩
    have HB2 := Lib.hid (below_up HB1.out hb2)
    clear hb2
    go_wp2_with fail
    go_ret
    exact ⟨rfl, HB2.out⟩
  · obtain ⟨i0, hi, hz0, hz1, hz2⟩ := info_parts info29
    have HLEN := Lib.hid hlen; have HR := Lib.hid hr; have HNO := Lib.hid hno; have HBY := Lib.hid hB; have HLEN2 := Lib.hid hlen2; have HR2 := Lib.hid hr2; have HI2 := Lib.hid hI2
    clear hlen hr hno hB hlen2 hr2 hI2
    have hdm : decide ((6000 : Int) < (m : Int)) = false := decide_eq_false hc
    go_enter Try.func3, Try.ntmps3
    go_wp2_with fail
    refine (awake_any w).mono ?_
    rintro e w1 ⟨rfl, hb1⟩
    have HB1 := Lib.hid hb1
    clear hb1
    go_wp2_with fail
    refine (of_any w1 A m c b HLEN.out (HR.out.up HB1.out) HNO.out (by omega)).mono ?_
    rintro e w2 ⟨⟨xb, cb, db, mb, fb, S, rfl, hl⟩, hb2⟩
    have HB2 := Lib.hid (below_up HB1.out hb2)
    have HCR : Hid (CR w w2 w1.heap.size w2.heap.size b xb cb db mb fb S { nu 2097152 with f := some ⟨b, b, true⟩ } 0 0 (fun _ => none) Option.none 0 [] 0) := Lib.hid ⟨hl, by omega, by omega, by omega, Own.nil _ _, by simp, (fun r hr => by cases hr), (fun j => by simp [In]), HB2.out, hb2.size, HB1.out.size, Nat.le_refl _, hl.ix.lt, hl.ix.map.lt, hl.dk.lt⟩
    clear hl hb2
    go_wp2_with fail
    go_loopg [7, 8] m2 (fun gh v vi wr => ∃ (k : Nat) (K : List R) (A' : Option Addr) (c' : Nat) (rd : Int) (n : Nat) (u : Int → Option Int), k + gh = m2 ∧ k ≤ 60 ∧ vi = .int .i64 k ∧ v = .slice A' K.length c' ∧ Hid (CR w wr w1.heap.size w2.heap.size b xb cb db mb fb S { nu 2097152 with f := some ⟨b, b, true⟩ } rd n u A' c' K k))
    case atStart => exact ⟨0, [], Option.none, 0, 0, 0, fun _ => Option.none, by omega, by omega, rfl, rfl, HCR⟩
    case round =>
      obtain ⟨k, K, A', c', rd, n, u, hk, hk60, rfl, rfl, HC⟩ := hrel
      by_cases hlt : k < m2
      · by_cases h60 : k < 60
        · obtain ⟨s, hs⟩ := get_some asks k (by have := HLEN2.out; omega)
          obtain ⟨ab, ao, rfl, hab, a0, a1⟩ := HR2.out.below HC.out.low (Nat.le_refl _) k s hs
          have hsI := HI2.out s (List.mem_of_getElem? hs)
          unfold I64 at hsI
          obtain ⟨⟨s0, s0'⟩, ⟨s1, s1'⟩⟩ := hsI
          have f60 : (k : Int) < 60 := by omega
          have fm2 : (k : Int) < (m2 : Int) := by omega
          clear hs
          by_cases hg : 0 ≤ s.1 ∧ s.1 ≤ s.2 ∧ s.2 ≤ (m : Int)
          · obtain ⟨hg0, hg1, hg2⟩ := hg
            obtain ⟨fr, hfr⟩ := Int.eq_ofNat_of_zero_le hg0
            obtain ⟨to_, hto⟩ := Int.eq_ofNat_of_zero_le (show 0 ≤ s.2 by omega)
            rw [hfr] at a0
            rw [hto] at a1
            have g1 : ¬ (fr : Int) < 0 := by omega
            have g2 : ¬ (to_ : Int) < (fr : Int) := by omega
            have g3 : ¬ (m : Int) < (to_ : Int) := by omega
            have hft : fr ≤ to_ := by omega
            have htm : to_ ≤ m := by omega
            clear hfr hto s0 s0' s1 s1' hg0 hg1 hg2
            go_wp2_with fail
            go_quiet (fail)
            have HCq : Hid (CR w (wr.drewN nq) w1.heap.size w2.heap.size b xb cb db mb fb S { nu 2097152 with f := some ⟨b, b, true⟩ } rd n u A' c' K k) := Lib.hid (HC.out.up (belowDrewN (Below.refl _ _) nq))
            clear HC a0 a1
            generalize wr.drewN nq = wq at *
            have hrd0 := HCq.out.rd0
            have hrd1 := HCq.out.rd1
            have hn1 := HCq.out.n1
            have hbw := HCq.out.bw
            go_wp2_with fail
            refine (LCountF wq HCq.out.live rfl HBY.out (by have := HLEN.out; omega) fr to_ hft (by have := HLEN.out; omega) hrd0 (by omega) (by omega)).mono ?_
            rintro e w3 ⟨rfl, hl3, hf3⟩
            have hrr := run_rd b to_ (by have := HLEN.out; omega) (to_ - fr) fr (u, rd)
            have hkk := run_keys b to_ (by have := HLEN.out; omega) (to_ - fr) fr (u, rd) (Nat.le_refl _)
            have hb3 : Below w1.heap.size wq w3 := HCq.out.live.below hf3 hbw
            have HC3 : Hid (CR w w3 w1.heap.size w2.heap.size b xb cb db mb fb S { nu 2097152 with f := some ⟨b, b, true⟩ } (run b to_ (to_ - fr) fr (u, rd)).2 (n + (to_ - fr)) (run b to_ (to_ - fr) fr (u, rd)).1 A' c' K (k+1) ∨ True) := Lib.hid (.inr trivial)
            have hrow3 : Own w3 w2.heap.size A' K.length c' K := HCq.out.row.frS hf3 (fun g hg e => e.elim (fun e => by have := HCq.out.xw; omega) (fun e => by have := HCq.out.cw; omega))
            generalize run b to_ (to_ - fr) fr (u, rd) = q at *
            simp only at hrr hkk
            have HKK := Lib.hid hkk
            have HL3 := Lib.hid hl3
            have HROW3 := Lib.hid hrow3
            have HLOW3 : Hid (Below w.heap.size w w3) := Lib.hid (HCq.out.low.trans (hb3.mono HCq.out.wb))
            have hs3 := hb3.size
            have hws := HCq.out.ws
            have hwb := HCq.out.wb
            have hkl := HCq.out.kl
            have hct := cnt_seg_take b (i := fr) (k := to_) hft
            have hcl := cnt_take_le' b to_
            have q5 : IntKind.i64.wrap (((cnt (b.take to_) : Nat) : Int) - ((cnt (b.take fr) : Nat) : Int)) = ((cnt (seg b fr to_) : Nat) : Int) := by rw [IntWalk.i64_in _ (by omega)]; omega
            have HQ5 := Lib.hid q5
            clear hl3 hf3 hkk hb3 hrow3 HC3 hct hcl q5
            generalize hx1 : cnt (seg b fr to_) = x1 at *
            have HR3 : Hid (RdB w3 w3.heap.size A b) := Lib.hid (HR.out.up HLOW3.out)
            have q5 := HQ5.out
            go_wp2_with fail
            refine (RefLine_any A m c to_ w3 b HLEN.out HR3.out htm (by omega)).mono ?_
            rintro e w4 ⟨rfl, rfl⟩
            go_wp2_with fail
            refine (RefLine_any A m c fr w3 b HLEN.out HR3.out (by omega) (by omega)).mono ?_
            rintro e w4 ⟨rfl, rfl⟩
            go_wp2_with fail
            have HWX : Calls Try.prog 11 #[.int .i64 (fr : Int), .int .i64 (to_ : Int), .int .i64 (m : Int)] w3 fun e w' => e = .returned (.agg #[.int .i64 (wh m fr to_).1, .int .i64 (wh m fr to_).2]) ∧ Below w3.heap.size w3 w' := whole_any w3 fr to_ m (by omega) (by omega)
            have HIN := Lib.hid (in_wh m fr to_ hft htm)
            have HIR := Lib.hid (wh_ir (size := m) (fr := fr) (to_ := to_) (by omega) (by omega))
            generalize wh m fr to_ = rr at *
            refine HWX.mono ?_
            clear HWX
            rintro e w4 ⟨rfl, hb4⟩
            have HROW4 := Lib.hid (HROW3.out.up hb4)
            have HL4 := Lib.hid (HL3.out.up hb4)
            have HLOW4 := Lib.hid (below_up HLOW3.out hb4)
            have hs4 := hb4.size
            clear hb4 q5
            go_wp2_with (at_builtin; refine wpList_append_own _ rfl (.tmp 87) (.tmp 93) 29 rfl w2.heap.size 36 i0 _ 2 16 Try.underlying29 hi hz0 hz1 hz2 rfl (by decide) _ _ _ rfl (HROW4.out.alloc _).2 ⟨w4.heap.size, 0, none⟩ 1 1 (cells [rr]) rfl rfl (new_one _ rr _ rfl) (cells_one_cell _) (by unfold maxLen; omega) (by omega) (by simp; omega) ?_)
            intro v' w5 hown' hgrow _
            obtain ⟨⟨A5, c5, hv, hown5⟩, _, hst, _, _⟩ := appL_step (w := w4) HROW4.out (Below.refl _ _) (by omega) ((Below.refl _ _).alloc (Nat.le_refl _) _) (m := 1) (K := [rr]) rfl hown' hgrow
            have HROW5 : Hid (Own w5 w2.heap.size A5 (K ++ [rr]).length c5 (K ++ [rr])) := Lib.hid (by simpa using hown5)
            have HL5 : Hid (Live w1.heap.size w5 b xb cb db mb fb S { nu 2097152 with f := some ⟨b, b, true⟩ } q.2 (n + (to_ - fr)) q.1) := Lib.hid (HL4.out.keepW hst HCq.out.xw HCq.out.cw HCq.out.sw)
            have HLOW5 : Hid (Below w.heap.size w w5) := Lib.hid (HLOW4.out.trans (hst.mono HB2.out.size))
            have hs5 := hst.size
            subst hv
            clear hown' hgrow hown5 hst
            have HIRK : Hid (IR (K ++ [rr])) := Lib.hid (fun r hr => by
              rcases List.mem_append.1 hr with hr | hr
              · exact HCq.out.ir r hr
              · simp at hr; subst hr; exact HIR.out)
            have HKEY : Hid (∀ j : Nat, (q.1 j).isSome = true ↔ In (K ++ [rr]) j) := Lib.hid (keys_snoc HCq.out.keys (by have := HKK.out; rwa [HLEN.out] at this) HIN.out)
            have HKL : Hid ((K ++ [rr]).length ≤ k + 1) := Lib.hid (by rw [List.length_append]; simp; omega)
            have hq0 : 0 ≤ q.2 := by omega
            have hq1 : q.2 ≤ 6000 * ((k + 1 : Nat) : Int) := by omega
            have hn2 : n + (to_ - fr) ≤ 6000 * (k + 1) := by omega
            rw [show K.length + 1 = (K ++ [rr]).length by simp]
            generalize K ++ [rr] = K2 at *
            generalize n + (to_ - fr) = n2 at *
            go_wp2_with fail
            refine (Known_any w5 HL5.out.ix (HL5.out.keys (by have := HLEN.out; omega)) (by omega)).mono ?_
            rintro e w6 ⟨⟨A6, m6, c6, l6, rfl, hO6, his⟩, hb6⟩
            have hl6 := known_nl HKEY.out his
            subst hl6
            have HO6 := Lib.hid hO6
            have HL6 := Lib.hid (HL5.out.up hb6)
            have HLOW6 := Lib.hid (below_up HLOW5.out hb6)
            have HROW6 := Lib.hid (HROW5.out.up hb6)
            have hs6 := hb6.size
            have hm6 := hO6.1
            clear hO6 his hb6
            have hK2 := HKL.out
            go_wp2_with fail
            refine (Mix_any A5 K2.length c5 Option.none 0 0 0 (.inl rfl) w6 K2 [] rfl HROW6.out.rd HIRK.out rfl (Rd.nil _ _ _) (fun r hr => by cases hr) (by omega) (by omega)).mono ?_
            rintro e w7 ⟨⟨A7, m7, c7, rfl, hO7⟩, hb7⟩
            have HO7 := Lib.hid hO7
            have HO67 := Lib.hid (HO6.out.up hb7)
            have HL7 := Lib.hid (HL6.out.up hb7)
            have HLOW7 := Lib.hid (below_up HLOW6.out hb7)
            have HROW7 := Lib.hid (HROW6.out.up hb7)
            have hs7 := hb7.size
            have hm7 := hO7.1
            have hcap6 := HO6.out.cap
            have hcap7 := hO7.cap
            have hmx : maxLen ≤ 9223372036854775807 := by decide
            clear hO7 hb7
            go_wp2_with fail
            refine (Same_any A6 m6 c6 A7 m7 c7 w7 _ _ hm6 HO67.out.rd (by omega) hm7 HO7.out.rd (by omega)).mono ?_
            rintro e w8 ⟨rfl, hb8⟩
            have hdd : decide (mixR 0 K2 [] = mixR 0 K2 []) = true := by simp
            rw [hdd]
            have HC8 : Hid (CR w w8 w1.heap.size w2.heap.size b xb cb db mb fb S { nu 2097152 with f := some ⟨b, b, true⟩ } q.2 n2 q.1 A5 c5 K2 (k+1)) := Lib.hid (CR.up ⟨HL7.out, hq0, hq1, hn2, HROW7.out, HKL.out, HIRK.out, HKEY.out, HLOW7.out, by omega, HCq.out.wb, by omega, HCq.out.xw, HCq.out.cw, HCq.out.sw⟩ hb8)
            clear hb8 hdd hcap6 hcap7 hmx hm6 hm7
            go_wp2_with fail
            go_roundg (m2 - (k+1))
            case rel => exact ⟨k+1, K2, A5, c5, q.2, n2, q.1, by omega, by omega, by go_num, rfl, HC8⟩
            case measure => omega
          · have hbad : (s.1 < 0 ∨ s.2 < s.1) ∨ (m : Int) < s.2 := by omega
            have HCN : Hid (∀ W, Below wr.heap.size wr W → Calls Try.prog 9 #[.pointer (some ⟨xb, 0, Option.none⟩), .int .i64 s.1, .int .i64 s.2] W fun e w' => e = .returned (.tuple #[.int .i64 0, .int .i64 2]) ∧ W = w') := Lib.hid fun W hW => Count_range W (HC.out.up hW).live.ix s.1 s.2 (by have := HLEN.out; omega)
            have HHG : Hid ((s.1 < 0 ∨ s.2 < s.1) ∨ (m : Int) < s.2) := Lib.hid hbad
            clear hbad hg
            go_wp2_with fail
            go_quiet (fail)
            have HCq : Hid (CR w (wr.drewN nq) w1.heap.size w2.heap.size b xb cb db mb fb S { nu 2097152 with f := some ⟨b, b, true⟩ } rd n u A' c' K k) := Lib.hid (HC.out.up (belowDrewN (Below.refl _ _) nq))
            have HCN2 := Lib.hid (HCN.out (wr.drewN nq) (belowDrewN (Below.refl _ _) nq))
            clear HC a0 a1 HCN
            generalize wr.drewN nq = wq at *
            go_wp2_with fail
            refine HCN2.out.mono ?_
            rintro e w3 ⟨rfl, rfl⟩
            clear HCN2
            rcases HHG.out with (hh | hh) | hh
            · go_wp2_with fail
              go_roundg (m2 - (k+1))
              case rel => exact ⟨k+1, K, A', c', rd, n, u, by omega, by omega, by go_num, rfl, Lib.hid HCq.out.next⟩
              case measure => omega
            · by_cases h0 : s.1 < 0
              · go_wp2_with fail
                go_roundg (m2 - (k+1))
                case rel => exact ⟨k+1, K, A', c', rd, n, u, by omega, by omega, by go_num, rfl, Lib.hid HCq.out.next⟩
                case measure => omega
              · go_wp2_with fail
                go_roundg (m2 - (k+1))
                case rel => exact ⟨k+1, K, A', c', rd, n, u, by omega, by omega, by go_num, rfl, Lib.hid HCq.out.next⟩
                case measure => omega
            · by_cases h0 : s.1 < 0
              · go_wp2_with fail
                go_roundg (m2 - (k+1))
                case rel => exact ⟨k+1, K, A', c', rd, n, u, by omega, by omega, by go_num, rfl, Lib.hid HCq.out.next⟩
                case measure => omega
              · by_cases h1 : s.2 < s.1
                · go_wp2_with fail
                  go_roundg (m2 - (k+1))
                  case rel => exact ⟨k+1, K, A', c', rd, n, u, by omega, by omega, by go_num, rfl, Lib.hid HCq.out.next⟩
                  case measure => omega
                · go_wp2_with fail
                  go_roundg (m2 - (k+1))
                  case rel => exact ⟨k+1, K, A', c', rd, n, u, by omega, by omega, by go_num, rfl, Lib.hid HCq.out.next⟩
                  case measure => omega
        · obtain rfl : k = 60 := by omega
          go_wp2_with fail
          go_ret
          exact ⟨rfl, HC.out.low⟩
      · obtain rfl : k = m2 := by omega
        clear hlt
        go_wp2_with fail
        go_ret
        exact ⟨rfl, HC.out.low⟩
end Go.Proofs.Ytpnajbpakeimiaa
