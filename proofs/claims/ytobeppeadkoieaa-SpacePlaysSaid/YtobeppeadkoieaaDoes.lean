/-
  What does answers: true, and the two stand alike behind it; the calls but Keep.
-/
import Derived.Test.YtobeppeadkoieaaJoint
import Derived.Deep.RegionHeld3
namespace Go.Proofs.Ytobeppeadkoieaa
open Go.RowKit
theorem Ints_true (A : Option Addr) (len cap : Nat) (A2 : Option Addr) (len2 cap2 : Nat) (w : World) (l : List Int) (hlen : l.length = len) (hr : RdI w w.heap.size A l) (hm : len ≤ 1000000) (hlen2 : len2 = len) (hr2 : RdI w w.heap.size A2 l) :
    Calls Try.prog 15 #[.slice A len cap, .slice A2 len2 cap2] w fun e w' => e = .returned (.bool true) ∧ ∃ n, w' = w.drewN n := by
  subst hlen2
  have H := Lib.hid hlen; have HR := Lib.hid hr; have HR2 := Lib.hid hr2
  clear hlen hr hr2
  go_enter Try.func15, Try.ntmps15
  go_wp2_with fail
  go_loopw [5] (fun i wr => ∃ k : Nat, k ≤ len2 ∧ i = .int .i64 k ∧ ∃ n, wr = w.drewN n) (fun i _ => len2 - (intOf i).toNat)
  case atStart => exact ⟨0, Nat.zero_le _, rfl, 0, rfl⟩
  case round =>
    obtain ⟨k, hk, rfl, n, rfl⟩ := hrel
    by_cases hlt : k < len2
    · obtain ⟨s, hs⟩ := get_some l k (by have := H.out; omega)
      obtain ⟨b, off, rfl, hb', h0⟩ := HR.out k s hs
      obtain ⟨b2, off2, rfl, hb2', g0⟩ := HR2.out k s hs
      clear hs
      go_wp2_with fail
      go_quiet (fail)
      go_wp2_with fail
      go_roundw
      case rel => exact ⟨k+1, by omega, by go_num, n + nq, by simp⟩
      case measure => simp [intOf]; omega
    · obtain rfl : k = len2 := by omega
      clear hlt
      go_wp2_with fail
      go_ret
      exact ⟨rfl, n, rfl⟩
/-- A call that lies in memory. -/
structure Cl (w : World) (G : Nat) (kind no : Int) (L : Option Addr) (n cl : Nat) : Prop where
  lt : G < w.heap.size
  c0 : w.cell? ⟨G, 0, none⟩ = some (.int .i64 kind)
  c1 : w.cell? ⟨G, 1, none⟩ = some (.int .i64 no)
  c2 : w.cell? ⟨G, 2, none⟩ = some (.slice L n cl)
theorem Cl.only {w w' : World} {G : Nat} {kind no : Int} {L : Option Addr} {n cl : Nat} (h : Cl w G kind no L n cl) {X : Nat → Prop} (ho : Only w w' X) (hX : ¬ X G) : Cl w' G kind no L n cl := by
  have e := ho.rest G h.lt hX
  exact ⟨Nat.lt_of_lt_of_le h.lt ho.size, (World.cell?_of_block (w := w) (a := ⟨G, 0, none⟩) e).trans h.c0, (World.cell?_of_block (w := w) (a := ⟨G, 1, none⟩) e).trans h.c1, (World.cell?_of_block (w := w) (a := ⟨G, 2, none⟩) e).trans h.c2⟩
theorem Cl.new (w : World) (kind no : Int) (L : Option Addr) (n cl : Nat) : Cl (w.alloc (.cells #[.int .i64 kind, .int .i64 no, .slice L n cl] 34)) w.heap.size kind no L n cl :=
  ⟨by simp, by rw [cell_new]; rfl, by rw [cell_new]; rfl, by rw [cell_new]; rfl⟩
/-- The state of the two. -/
def St (w : World) (B sb bu bw p : Nat) (res : Int) (M : Nat) : Prop := ∃ u wt A c tk U W T N S Rs, Jm w B sb bu bw p res u wt A c tk U W T N S Rs ∧ Jp res u wt tk U W T N M
section
variable {w : World} {B sb bu bw p : Nat} {res : Int} {M : Nat}
theorem St.up (h : St w B sb bu bw p res M) {w' : World} (hb : Below w.heap.size w w') : St w' B sb bu bw p res M := by
  obtain ⟨u, wt, A, c, tk, U, W, T, N, S, Rs, h1, h2⟩ := h
  exact ⟨u, wt, A, c, tk, U, W, T, N, S, Rs, h1.up hb, h2⟩
theorem St.more (h : St w B sb bu bw p res M) {M' : Nat} (hM : M ≤ M') : St w B sb bu bw p res M' := by
  obtain ⟨u, wt, A, c, tk, U, W, T, N, S, Rs, h1, h2⟩ := h
  exact ⟨u, wt, A, c, tk, U, W, T, N, S, Rs, h1, h2.more hM⟩
theorem St.base (h : St w B sb bu bw p res M) : B ≤ w.heap.size := by
  obtain ⟨u, wt, A, c, tk, U, W, T, N, S, Rs, h1, h2⟩ := h
  exact h1.base
set_option maxRecDepth 100000 in
theorem does_other (h : St w B sb bu bw p res M) (kind no : Int) (L : Option Addr) (n cl : Nat) (h1 : kind ≠ 1) (h2 : kind ≠ 2) (h3 : kind ≠ 3) (h4 : kind ≠ 4) (h5 : kind ≠ 5) :
    Calls Try.prog 9 #[.pointer (some ⟨sb, 0, none⟩), .pointer (some ⟨p, 0, none⟩), .agg #[.int .i64 kind, .int .i64 no, .slice L n cl]] w fun e w' => e = .returned (.bool true) ∧ St w' B sb bu bw p res M ∧ Below B w w' := by
  have H := Lib.hid h
  have hB := h.base
  have g1 : (kind == 1) = false := by simpa using h1
  have g2 : (kind == 2) = false := by simpa using h2
  have g3 : (kind == 3) = false := by simpa using h3
  have g4 : (kind == 4) = false := by simpa using h4
  have g5 : (kind == 5) = false := by simpa using h5
  clear h h1 h2 h3 h4 h5
  go_enter Try.func9, Try.ntmps9
  go_wp2_with fail
  go_ret
  have hb : Below w.heap.size w (w.alloc (.cells #[.int .i64 kind, .int .i64 no, .slice L n cl] 34)) := (Below.refl _ _).alloc (Nat.le_refl _) _
  exact ⟨rfl, H.out.up hb, hb.mono hB⟩
set_option maxRecDepth 100000 in
theorem does_settle (h : St w B sb bu bw p res M) (no : Int) (L : Option Addr) (n cl : Nat) :
    Calls Try.prog 9 #[.pointer (some ⟨sb, 0, none⟩), .pointer (some ⟨p, 0, none⟩), .agg #[.int .i64 3, .int .i64 no, .slice L n cl]] w fun e w' => e = .returned (.bool true) ∧ St w' B sb bu bw p res M ∧ Below B w w' := by
  obtain ⟨u, wt, A, c, tk, U, W, T, N, S, Rs, hm, hp⟩ := h
  have hB := hm.base
  have hb : Below w.heap.size w (w.alloc (.cells #[.int .i64 3, .int .i64 no, .slice L n cl] 34)) := (Below.refl _ _).alloc (Nat.le_refl _) _
  have HM := Lib.hid (hm.up hb)
  have HP := Lib.hid hp
  have HB0 := Lib.hid (hb.mono hB)
  clear hm hp hb
  go_enter Try.func9, Try.ntmps9
  go_wp2_with fail
  generalize w.alloc (.cells #[.int .i64 3, .int .i64 no, .slice L n cl] 34) = w0 at *
  refine (Settle_any _ sb bu bw res u wt A c tk N HM.out.sp).mono ?_
  rintro e w1 ⟨rfl, hs1, hb1, hk1⟩
  obtain ⟨hm1, hB1, _⟩ := HM.out.prog hs1 hb1 hk1
  have HM1 := Lib.hid hm1
  have HB1 := Lib.hid (HB0.out.trans hB1)
  clear hs1 hb1 hk1 hm1 hB1 HM HB0
  go_wp2_with fail
  refine (HM1.out.rf.settle).mono ?_
  rintro e w2 ⟨rfl, hr2, ho2⟩
  obtain ⟨hm2, hB2⟩ := HM1.out.ref hr2 ho2
  have HM2 := Lib.hid hm2
  have HB2 := Lib.hid (HB1.out.trans hB2)
  clear hr2 ho2 hm2 hB2 HM1 HB1
  go_wp2_with fail
  go_ret
  exact ⟨rfl, ⟨_, _, _, _, _, _, _, _, _, _, _, HM2.out, HP.out.settle⟩, HB2.out⟩
set_option maxRecDepth 100000 in
set_option maxHeartbeats 800000 in
theorem does_take (h : St w B sb bu bw p res M) (hM : M ≤ 900000) (no : Int) (L : Option Addr) (n cl : Nat) :
    Calls Try.prog 9 #[.pointer (some ⟨sb, 0, none⟩), .pointer (some ⟨p, 0, none⟩), .agg #[.int .i64 1, .int .i64 no, .slice L n cl]] w fun e w' => e = .returned (.bool true) ∧ St w' B sb bu bw p res (M+1) ∧ Below B w w' := by
  obtain ⟨u, wt, A, c, tk, U, W, T, N, S, Rs, hm, hp⟩ := h
  have hB := hm.base
  have hb : Below w.heap.size w (w.alloc (.cells #[.int .i64 1, .int .i64 no, .slice L n cl] 34)) := (Below.refl _ _).alloc (Nat.le_refl _) _
  have HM := Lib.hid (hm.up hb)
  have HP := Lib.hid hp
  have HB0 := Lib.hid (hb.mono hB)
  have hlu := hp.lu; have hlw := hp.lw; have hlt := hp.lt; have hln := hp.ln; have r0 := hp.r0; have r1 := hp.r1
  have heq := hp.eq
  subst heq
  rcases least_free res r1 (fun x => u x = true ∨ wt x = true) with ⟨j, j0, j1, j2, j3⟩ | hall
  · have ju : u j = false := by cases hx : u j with
      | false => rfl
      | true => exact absurd (.inl hx) j2
    have jw : wt j = false := by cases hx : wt j with
      | false => rfl
      | true => exact absurd (.inr hx) j2
    have J3 := Lib.hid j3
    have JU := Lib.hid ju; have JW := Lib.hid jw
    clear hm hp hb j2 j3 ju jw
    go_enter Try.func9, Try.ntmps9
    go_wp2_with fail
    generalize w.alloc (.cells #[.int .i64 1, .int .i64 no, .slice L n cl] 34) = w0 at *
    refine (Take_any _ sb bu bw res u wt A c T N HM.out.sp j r0 j0 j1 JU.out JW.out J3.out (by omega) (by omega)).mono ?_
    rintro e w1 ⟨rfl, ⟨A1, c1, hs1, hk1⟩, hb1⟩
    obtain ⟨hm1, hB1, _⟩ := HM.out.prog hs1 hb1 hk1
    have HM1 := Lib.hid hm1
    have HB1 := Lib.hid (HB0.out.trans hB1)
    clear hs1 hb1 hk1 hm1 hB1 HM HB0
    go_wp2_with fail
    refine (HM1.out.rf.take_yes j r0 j0 j1 (fun hx => by have := (HP.out.uu j).1 hx; rw [JU.out] at this; cases this) (fun hx => by have := (HP.out.ww j).1 hx; rw [JW.out] at this; cases this) (fun i h0 h1 => (J3.out i h0 h1).imp (HP.out.uu i).2 (HP.out.ww i).2) (by omega) (by omega) (by omega)).mono ?_
    rintro e w2 ⟨rfl, hr2, ho2⟩
    obtain ⟨hm2, hB2⟩ := HM1.out.ref hr2 ho2
    have HM2 := Lib.hid hm2
    have HB2 := Lib.hid (HB1.out.trans hB2)
    clear hr2 ho2 hm2 hB2 HM1 HB1
    go_wp2_with fail
    go_ret
    exact ⟨rfl, ⟨_, _, _, _, _, _, _, _, _, _, _, HM2.out, HP.out.take j j0 j1⟩, HB2.out⟩
  · have HA := Lib.hid hall
    clear hm hp hb hall
    go_enter Try.func9, Try.ntmps9
    go_wp2_with fail
    generalize w.alloc (.cells #[.int .i64 1, .int .i64 no, .slice L n cl] 34) = w0 at *
    refine (Take_full HM.out.sp r0 r1 HA.out).mono ?_
    rintro e w1 ⟨rfl, rfl⟩
    go_wp2_with fail
    refine (HM.out.rf.take_full r0 r1 (fun i h0 h1 => (HA.out i h0 h1).imp (HP.out.uu i).2 (HP.out.ww i).2) (by omega) (by omega)).mono ?_
    rintro e w2 ⟨rfl, rfl⟩
    go_wp2_with fail
    go_ret
    exact ⟨rfl, ⟨_, _, _, _, _, _, _, _, _, _, _, HM.out, HP.out.more (Nat.le_succ _)⟩, HB0.out⟩
set_option maxRecDepth 100000 in
set_option maxHeartbeats 1600000 in
theorem does_back (h : St w B sb bu bw p res M) (hM : M ≤ 900000) (no : Int) (L : Option Addr) (n cl : Nat) :
    Calls Try.prog 9 #[.pointer (some ⟨sb, 0, none⟩), .pointer (some ⟨p, 0, none⟩), .agg #[.int .i64 5, .int .i64 no, .slice L n cl]] w fun e w' => e = .returned (.bool true) ∧ St w' B sb bu bw p res M ∧ Below B w w' := by
  obtain ⟨u, wt, A, c, tk, U, W, T, N, S, Rs, hm, hp⟩ := h
  have hB := hm.base
  have hb : Below w.heap.size w (w.alloc (.cells #[.int .i64 5, .int .i64 no, .slice L n cl] 34)) := (Below.refl _ _).alloc (Nat.le_refl _) _
  have HM := Lib.hid (hm.up hb)
  have HP := Lib.hid hp
  have HB0 := Lib.hid (hb.mono hB)
  have hlu := hp.lu; have hlw := hp.lw; have hlt := hp.lt; have hln := hp.ln; have r0 := hp.r0; have r1 := hp.r1
  have heq := hp.eq
  have HG := Lib.hid (Cl.new w 5 no L n cl)
  have hGS : ¬ S w.heap.size := fun hS => by have := (hm.sl _ hS).1; omega
  have hGR : ¬ Rs w.heap.size := fun hS => by have := hm.rf.lt _ hS; omega
  subst heq
  by_cases hno : no < 0 ∨ (T.length : Int) < no
  · clear hm hp hb
    go_enter Try.func9, Try.ntmps9
    go_wp2_with fail
    generalize w.alloc (.cells #[.int .i64 5, .int .i64 no, .slice L n cl] 34) = w0 at *
    refine (Back_bad HM.out.sp no hno).mono ?_
    rintro e w1 ⟨rfl, rfl⟩
    have k1 := HG.out.c1
    go_wp2_with fail
    refine (HM.out.rf.back_bad no hno).mono ?_
    rintro e w2 ⟨rfl, rfl⟩
    go_wp2_with fail
    refine (Ints_true none 0 0 none 0 0 _ [] rfl (RdI.nil _ _ _) (by omega) rfl (RdI.nil _ _ _)).mono ?_
    rintro e w3 ⟨rfl, q, rfl⟩
    have hb3 : Below w0.heap.size w0 (w0.drewN q) := belowDrewN (Below.refl _ _) q
    have HM3 := Lib.hid (HM.out.up hb3)
    have HB3 := Lib.hid (HB0.out.trans (hb3.mono HM.out.base))
    clear hb3
    go_wp2_with fail
    go_ret
    exact ⟨rfl, ⟨_, _, _, _, _, _, _, _, _, _, _, HM3.out, HP.out⟩, HB3.out⟩
  · obtain ⟨m, rfl⟩ := Int.eq_ofNat_of_zero_le (show 0 ≤ no by omega)
    have hmT : m ≤ T.length := by omega
    clear hm hp hb hno
    go_enter Try.func9, Try.ntmps9
    go_wp2_with fail
    generalize w.alloc (.cells #[.int .i64 5, .int .i64 (m : Int), .slice L n cl] 34) = w0 at *
    refine (Back_ok HM.out.sp m hmT (by omega) (fun x hx => by have := HP.out.bt x hx; unfold I64; omega)).mono ?_
    rintro e w1 ⟨u', out, hf, Ao, no', co, rfl, hs1, ho1, hb1, hk1⟩
    obtain ⟨hm1, hB1, hO1⟩ := HM.out.prog hs1 hb1 hk1
    have HM1 := Lib.hid hm1
    have HB1 := Lib.hid (HB0.out.trans hB1)
    have HG1 := Lib.hid (HG.out.only hO1 hGS)
    have HF := Lib.hid hf
    have HO1 := Lib.hid ho1
    have k1 := HG1.out.c1
    have hs0 := hO1.size
    have HRo : Hid (RdI w1 w1.heap.size Ao (sortI out)) := Lib.hid ho1.rd
    have HNR : Hid (∀ b, inA Ao b → ¬ Rs b) := Lib.hid (fun b hb hR => by have := (row_in ho1 hb).1; have := HM.out.rf.lt b hR; omega)
    have hlo := ho1.1
    clear hs1 hb1 hk1 hm1 hB1 hO1 hf ho1
    go_wp2_with fail
    refine (HM1.out.rf.back_ok m hmT (by omega) (by omega)).mono ?_
    rintro e w2 ⟨U', out', hf2, Ao2, no2, co2, rfl, hlo2, hr2, hrd2, ho2⟩
    obtain ⟨hm2, hB2⟩ := HM1.out.ref hr2 ho2
    obtain ⟨hp2, hso, hlen2⟩ := HP.out.back m HF.out hf2
    have HP2 := Lib.hid hp2
    have HM2 := Lib.hid hm2
    have HB2 := Lib.hid (HB1.out.trans hB2)
    have HRo2 : Hid (RdI w2 w2.heap.size Ao (sortI out)) := Lib.hid (HRo.out.only ho2 HNR.out)
    have HRd2 : Hid (RdI w2 w2.heap.size Ao2 (sortI out)) := Lib.hid (by rw [hso]; exact hrd2)
    have hl2 : no2 = no' := by rw [← hlo2, ← hlo, hso]
    have hl3 : no' ≤ 1000000 := by rw [← hl2, ← hlo2]; omega
    clear hr2 ho2 hm2 hB2 hp2 hf2 hrd2 HM1 HB1 HRo k1
    go_wp2_with fail
    refine (Ints_true Ao no' co Ao2 no' co2 _ (sortI out) hlo HRo2.out hl3 rfl HRd2.out).mono ?_
    rintro e w3 ⟨rfl, q, rfl⟩
    have hb3 : Below w2.heap.size w2 (w2.drewN q) := belowDrewN (Below.refl _ _) q
    have HM3 := Lib.hid (HM2.out.up hb3)
    have HB3 := Lib.hid (HB2.out.trans (hb3.mono HM2.out.base))
    clear hb3
    go_wp2_with fail
    go_ret
    exact ⟨rfl, ⟨_, _, _, _, _, _, _, _, _, _, _, HM3.out, HP2.out⟩, HB3.out⟩
end
end Go.Proofs.Ytobeppeadkoieaa
