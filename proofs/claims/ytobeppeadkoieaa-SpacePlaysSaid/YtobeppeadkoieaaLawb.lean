/-
  That SpaceBack is true, for all numbers and calls.
-/
import Derived.Test.YtobeppeadkoieaaLawp
import Derived.Test.YtobeppeadkoieaaWalkd
namespace Go.Proofs.Ytobeppeadkoieaa
open Go.RowKit
theorem rd_only {w w' : World} {L : Option Addr} {l : List Rg.R} {X : Nat → Prop} (h : Rg.Rd w w.heap.size L l) (ho : Only w w' X) (hL : ∀ b, inA L b → ¬ X b) : Rg.Rd w' w'.heap.size L l := by
  intro k s hs
  obtain ⟨b, off, rfl, hb, h0, h1⟩ := h k s hs
  have e := ho.rest b hb (hL b (inA_some.2 rfl))
  exact ⟨b, off, rfl, Nat.lt_of_lt_of_le hb ho.size, (World.cell?_of_block (w := w) (a := ⟨b, off + k * 2, none⟩) e).trans h0, (World.cell?_of_block (w := w) (a := ⟨b, off + k * 2 + 1, none⟩) e).trans h1⟩
theorem rowR_in {w : World} {base : Nat} {A : Option Addr} {n c : Nat} {l : List Rg.R} (h : Rg.Own w base A n c l) {b : Nat} (hb : inA A b) : base ≤ b ∧ b < w.heap.size := by
  cases A with
  | none => exact absurd hb inA_none
  | some a =>
    have := inA_some.1 hb
    exact h.2.lt b (by simp [Value.ownBlock, this])
/-- A row of ranges beside the two. -/
structure Bs (w : World) (A : Option Addr) (l : List Rg.R) (S : Nat → Prop) (Q : Nat) : Prop where
  rd : Rg.Rd w w.heap.size A l
  ns : ∀ b, inA A b → ¬ S b
  lt : ∀ b, inA A b → b < Q
theorem Bs.only {w w' : World} {A : Option Addr} {l : List Rg.R} {S : Nat → Prop} {Q : Nat} (h : Bs w A l S Q) (ho : Only w w' S) (hQ : Q ≤ w.heap.size) : Bs w' A l (Sx S w w') Q :=
  ⟨rd_only h.rd ho h.ns, fun b hb hS => hS.elim (h.ns b hb) (fun h1 => by have := h.lt b hb; omega), h.lt⟩
theorem Bs.below {w w' : World} {A : Option Addr} {l : List Rg.R} {S : Nat → Prop} {Q : Nat} (h : Bs w A l S Q) (hb : Below Q w w') : Bs w' A l S Q :=
  ⟨fun k s hs => by
    obtain ⟨b, off, rfl, h1, h2, h3⟩ := h.rd k s hs
    have hlt := h.lt b (inA_some.2 rfl)
    exact ⟨b, off, rfl, Nat.lt_of_lt_of_le h1 hb.size, (hb.cell (p := ⟨b, off + k * 2, none⟩) hlt).trans h2, (hb.cell (p := ⟨b, off + k * 2 + 1, none⟩) hlt).trans h3⟩, h.ns, h.lt⟩
theorem Bs.up {w w' : World} {A : Option Addr} {l : List Rg.R} {S : Nat → Prop} {Q : Nat} (h : Bs w A l S Q) (hb : Below w.heap.size w w') : Bs w' A l S Q := ⟨by
    intro k s hs
    obtain ⟨b, off, rfl, h1, h2, h3⟩ := h.rd k s hs
    exact ⟨b, off, rfl, Nat.lt_of_lt_of_le h1 hb.size, (hb.cell (p := ⟨b, off + k * 2, none⟩) h1).trans h2, (hb.cell (p := ⟨b, off + k * 2 + 1, none⟩) h1).trans h3⟩, h.ns, h.lt⟩
section
variable {res : Int} {u wt : Int → Bool} {tk U W T : List Int} {N M : Nat}
theorem Jp.b0 (h : Jp res u wt tk U W T N M) : ∀ x ∈ U, 0 ≤ x ∧ x < 1048576 := fun x hx => by have := h.bu x hx; have := h.r0; omega
theorem Jp.w0 (h : Jp res u wt tk U W T N M) : ∀ x ∈ W, 0 ≤ x ∧ x < 1048576 := fun x hx => by have := h.bw x hx; have := h.r0; omega
end
set_option maxHeartbeats 6400000 in
set_option maxRecDepth 100000 in
theorem back_walk (a b : Int) (A1 : Option Addr) (len1 cap1 : Nat) (w : World) (cs : List CallV) (hl : cs.length = len1) (hr : RdC w w.heap.size A1 cs) (a0 : -9223372036854775808 ≤ a) (a1 : a ≤ 9223372036854775807) (b0 : -9223372036854775808 ≤ b) (b1 : b ≤ 9223372036854775807) (_hm : len1 ≤ 9223372036854775807) :
    Calls Try.prog 3 #[.int .i64 a, .slice A1 len1 cap1, .int .i64 b] w fun e w' => e = .returned (.bool true) ∧ Below w.heap.size w w' := by
  obtain ⟨i0, hi, hz0, hz1, hz2⟩ := info_parts info3
  have HLc := Lib.hid hl; have HRc := Lib.hid hr
  clear hl hr
  go_enter Try.func3, Try.ntmps3
  go_wp2_with fail
  refine (Pick_any a 50 _ (by omega) (by omega) a0 a1).mono ?_
  rintro e w1 ⟨rfl, rfl⟩
  have p0 := Int.emod_nonneg a (show (50 : Int) ≠ 0 by omega)
  have p1 := Int.emod_lt_of_pos a (show (0 : Int) < 50 by omega)
  generalize a % 50 = res at *
  go_wp2_with fail
  refine (Pick_any b 30 _ (by omega) (by omega) b0 b1).mono ?_
  rintro e w1 ⟨rfl, rfl⟩
  have q0 := Int.emod_nonneg b (show (30 : Int) ≠ 0 by omega)
  have q1 := Int.emod_lt_of_pos b (show (0 : Int) < 30 by omega)
  generalize b % 30 = ν at *
  obtain ⟨n, rfl⟩ := Int.eq_ofNat_of_zero_le q0
  have q2 : IntKind.i64.wrap (1 + (n : Int)) = ((1 + n : Nat) : Int) := by rw [IntWalk.i64_in _ (by omega)]; omega
  have r1 : res ≤ 1048576 := by omega
  go_wp2_with fail
  refine (New_any _ res p0 r1).mono ?_
  rintro e w1 ⟨⟨sb, bu, bw, rfl, hbu, hs1⟩, hb1⟩
  have HS1 := Lib.hid hs1; have HB1 := Lib.hid hb1
  clear hs1 hb1
  go_wp2_with fail
  refine (awake_any _).mono ?_
  rintro e w2 ⟨rfl, hb2⟩
  have HS2 : Hid (Sp w2 sb bu bw res (fun _ => false) (fun _ => false) none 0 [] 0) := Lib.hid (HS1.out.stays hb2.size (fun b hlt _ => hb2.block b hlt))
  have HB2 := Lib.hid (below_up HB1.out hb2)
  have HST := Lib.hid (st_new HS2.out hbu p0 r1)
  have HB3 : Hid (Below w.heap.size w (w2.alloc (.cells #[.int .i64 res, .slice none 0 0, .slice none 0 0, .slice none 0 0] 32))) := Lib.hid (HB2.out.alloc HB2.out.size _)
  clear hb2 HS1 HB1 HS2 HB2
  go_wp2_with fail
  generalize w2.heap.size = p at *
  generalize w2.alloc (.cells #[.int .i64 res, .slice none 0 0, .slice none 0 0, .slice none 0 0] 32) = w3 at *
  go_loopw [10] (fun i wr => ∃ k : Nat, k ≤ len1 ∧ k ≤ 60 ∧ i = .int .i64 k ∧ Hid (St wr w.heap.size sb bu bw p res (40 * k)) ∧ Hid (Below w.heap.size w wr)) (fun i _ => 60 - (intOf i).toNat)
  case atStart => exact ⟨0, Nat.zero_le _, Nat.zero_le _, rfl, HST, HB3⟩
  case round =>
    clear HST HB3
    obtain ⟨k, hk, hk60, rfl, hSt, hB⟩ := hrel
    by_cases h1 : k < len1
    · by_cases h2 : k < 60
      · obtain ⟨x, hx⟩ := get_some cs k (by have := HLc.out; omega)
        obtain ⟨b, off, rfl, hbb, c0, c1, c2, hik, hin, hxl, hxm, hxr, hxi, hxn⟩ := (HRc.out.below hB.out (Nat.le_refl _)) k x hx
        have HXR := Lib.hid hxr; have HXI := Lib.hid hxi; have HXN := Lib.hid hxn; have HXL := Lib.hid hxl; have HIN := Lib.hid hin
        obtain ⟨kind, no, L, xn, cl, l⟩ := x
        simp only at *
        clear hx hbb hik hin hxl hxr hxi hxn
        by_cases h3 : xn ≤ 40
        · go_wp2_with fail
          refine (does_any hSt.out (by omega) kind no HIN.out L xn cl l HXL.out h3 HXR.out HXI.out HXN.out).mono ?_
          rintro e w4 ⟨rfl, hst4, hb4⟩
          have HST4 := Lib.hid (hst4.more (M' := 40 * (k+1)) (by omega)); have HB4 := Lib.hid (hB.out.trans hb4)
          clear hst4 hb4
          go_wp2_with fail
          go_roundw
          case rel => exact ⟨k+1, by omega, by omega, by go_num, HST4, HB4⟩
          case measure => simp [intOf]; omega
        · go_wp2_with fail
          go_roundw
          case rel => exact ⟨k+1, by omega, by omega, by go_num, Lib.hid (hSt.out.more (by omega)), hB⟩
          case measure => simp [intOf]; omega
      · obtain rfl : k = 60 := by omega
        clear h2
        obtain ⟨u, wt, A, c, tk, U, W, T, N, S, Rs, hm, hp⟩ := hSt.out
        have HM := Lib.hid hm; have HP := Lib.hid hp
        have hlt := hp.lt; have hln := hp.ln
        have hBs := hB.out.size
        clear hm hp hSt
        go_wp2_with fail
        refine (Used_any HM.out.sp U HP.out.uu HP.out.b0 (by omega)).mono ?_
        rintro e w5 ⟨⟨A5, n5, c5, rfl, o5⟩, hb5⟩
        have HM5 := Lib.hid (HM.out.up hb5)
        have HU5 : Hid (Bs w5 A5 (Rg.nl (U.map unit1)) S w5.heap.size) := Lib.hid ⟨o5.rd, fun b hb hS => by have := (rowR_in o5 hb).1; have := (HM.out.sl b hS).1; omega, fun b hb => (rowR_in o5 hb).2⟩
        have KU := Lib.hid o5.1
        have hcu := o5.cap
        unfold maxLen at hcu
        have HB5 := Lib.hid (hB.out.trans (hb5.mono HM.out.base))
        clear o5 hb5
        go_wp2_with fail
        refine (Waiting_any HM5.out.sp W HP.out.ww HP.out.w0 (by omega)).mono ?_
        rintro e w6 ⟨⟨A6, n6, c6, rfl, o6⟩, hb6⟩
        have HM6 := Lib.hid (HM5.out.up hb6)
        have HU6 : Hid (Bs w6 A5 (Rg.nl (U.map unit1)) S w6.heap.size) := Lib.hid ⟨(HU5.out.up hb6).rd, HU5.out.ns, fun b hb => Nat.lt_of_lt_of_le (HU5.out.lt b hb) hb6.size⟩
        have HW6 : Hid (Bs w6 A6 (Rg.nl (W.map unit1)) S w6.heap.size) := Lib.hid ⟨o6.rd, fun b hb hS => by have := (rowR_in o6 hb).1; have := (HM5.out.sl b hS).1; omega, fun b hb => (rowR_in o6 hb).2⟩
        have KW := Lib.hid o6.1
        have hcw := o6.cap
        unfold maxLen at hcw
        have HB6 := Lib.hid (HB5.out.trans (hb6.mono HM5.out.base))
        clear o6 hb6 HM5 HU5 HB5 HM
        go_wp2_with fail
        refine (Mark_any _ sb bu bw res u wt A c tk N HM6.out.sp).mono ?_
        rintro e w7 ⟨rfl, rfl⟩
        go_wp2_with fail
        have hRsQ : ∀ b, Rs b → b < w6.heap.size := HM6.out.rf.lt
        obtain ⟨Q, hQ⟩ : ∃ Q, Q = w6.heap.size := ⟨_, rfl⟩
        rw [← hQ] at HU6 HW6 hRsQ
        have HQ := Lib.hid hQ
        have hwQ : w.heap.size ≤ Q := by have := HB6.out.size; omega
        clear hQ
        go_loopw [14, 15] (fun v i wr => ∃ (k : Nat) (A' : Option Addr) (c' : Nat) (F : List Int) (Ak : Option Addr) (ck Nk : Nat) (Sk : Nat → Prop), k ≤ 1 + n ∧ i = .int .i64 k ∧ v = .slice A' k c' ∧ Hid (Tk res u wt F) ∧ Hid (Jm wr w.heap.size sb bu bw p res (uF u F) wt Ak ck (tk ++ F) U W T Nk Sk Rs) ∧ Nk ≤ 2400 + k ∧ Hid (OwnI wr Q A' k c' F) ∧ Hid (∀ b, inA A' b → ¬ Sk b) ∧ Hid (Bs wr A5 (Rg.nl (U.map unit1)) Sk Q) ∧ Hid (Bs wr A6 (Rg.nl (W.map unit1)) Sk Q) ∧ Hid (Below w.heap.size w wr) ∧ Q ≤ wr.heap.size) (fun _ i _ => 1 + n - (intOf i).toNat)
        case atStart => exact ⟨0, none, 0, [], A, c, N, S, Nat.zero_le _, rfl, rfl, Lib.hid (Tk.nil _ _ _), Lib.hid (by rw [uF_nil, List.append_nil]; exact HM6.out), by omega, Lib.hid (OwnI.nil _ _), Lib.hid (fun b hb => absurd hb inA_none), HU6, HW6, HB6, by have := HQ.out; omega⟩
        case round =>
          clear HM6 HU6 HW6 HB6
          obtain ⟨j, A', c', F, Ak, ck, Nk, Sk, hj, rfl, rfl, hTk, hJ, hNk, hown, hnS, hU, hW, hBl, hQs⟩ := hrel
          have hFl : F.length = j := hown.out.1
          by_cases hlt2 : j < 1 + n
          · have d5 : decide ((j : Int) < ((1 + n : Nat) : Int)) = true := decide_eq_true (by omega)
            have hlt3 : (j : Int) < ((1 + n : Nat) : Int) := by omega
            rcases least_free res r1 (fun x => uF u F x = true ∨ wt x = true) with ⟨y, y0, y1, y2, y3⟩ | hall
            · have yu : uF u F y = false := by cases hx : uF u F y with
                | false => rfl
                | true => exact absurd (.inl hx) y2
              have yw : wt y = false := by cases hx : wt y with
                | false => rfl
                | true => exact absurd (.inr hx) y2
              obtain ⟨htk2, hFy⟩ := hTk.out.snoc y y0 y1 yu yw y3
              have HTk2 := Lib.hid htk2
              have HFy := Lib.hid hFy
              have HY3 := Lib.hid y3; have HYU := Lib.hid yu; have HYW := Lib.hid yw
              clear y2 y3 yu yw htk2 hFy
              go_wp2_with fail
              refine (Take_any _ sb bu bw res (uF u F) wt Ak ck (tk ++ F) Nk hJ.out.sp y p0 y0 y1 HYU.out HYW.out HY3.out (by omega) (by simp; omega)).mono ?_
              rintro e w8 ⟨rfl, ⟨A8, c8, hs8, hk8⟩, hb8⟩
              obtain ⟨hm8, hB8, ho8⟩ := hJ.out.prog hs8 hb8 hk8
              rw [uF_snoc, List.append_assoc] at hm8
              have HM8 := Lib.hid hm8
              have HU8 := Lib.hid (hU.out.only ho8 hQs)
              have HW8 := Lib.hid (hW.out.only ho8 hQs)
              have HO8 : Hid (OwnI w8 Q A' j c' F) := Lib.hid (hown.out.same (fun b hb => ho8.rest b (row_in hown.out hb).2 (hnS.out b hb)))
              have HN8 : Hid (∀ b, inA A' b → ¬ Sx Sk wr w8 b ∧ b < w8.heap.size) := Lib.hid (fun b hb => ⟨fun h => h.elim (hnS.out b hb) (fun h1 => by have := (row_in hown.out hb).2; omega), Nat.lt_of_lt_of_le (row_in hown.out hb).2 ho8.size⟩)
              have HB8 := Lib.hid (hBl.out.trans hB8)
              have hs8' : Q ≤ w8.heap.size := by have := ho8.size; omega
              clear hs8 hb8 hk8 hm8 hB8 ho8 hJ hU hW hown hnS hBl
              have TAIL : True := trivial
              cases j with
              | zero =>
                obtain rfl : F = [] := List.eq_nil_of_length_eq_zero hFl
                go_wp2_with (at_builtin; refine wpList_append_block rfl _ _ 30 rfl Q 3 i0 _ 1 8 Try.underlying30 hi hz0 hz1 hz2 rfl (by decide) _ _ _ rfl (HO8.out.alloc _).2 ⟨w8.heap.size, 0, none⟩ 1 1 (icells [y]) rfl rfl (newi_one _ y _ rfl) (icells_one _) (by unfold maxLen; omega) (by omega) (by simp; omega) ?_)
                intro v' w9 hown' hgrow hblk
                obtain ⟨⟨A9, c9, hv, hown9⟩, _, hb9, _, _⟩ := appI_step HO8.out (Below.refl _ _) hs8' ((Below.refl _ _).alloc (Nat.le_refl _) _) (m := 1) (K := [y]) rfl hown' hgrow
                rw [hv] at hblk
                have ho9 : Only w8 w9 (inA A') := (Only.of_below (w := w8) (X := inA A') ((Below.refl w8.heap.size w8).alloc (Nat.le_refl _) _)).trans (Only.of_grown hgrow (fun g hg => .inl (by cases hAe : (A' : Option Addr) with
                  | none => rw [hAe] at hg; cases hg
                  | some a => rw [hAe] at hg; simp [Value.ownBlock] at hg; exact inA_some.2 hg.symm)))
                have HM9 := Lib.hid (HM8.out.only ho9 (fun g hg hA => by
                  rcases hg with hg | hg
                  · exact (HN8.out g hA).1 hg
                  · have := (row_in HO8.out hA).1; have := hRsQ g hg; omega))
                have HU9 := Lib.hid (HU8.out.below hb9)
                have HW9 := Lib.hid (HW8.out.below hb9)
                have HB9 := Lib.hid (HB8.out.trans (hb9.mono hwQ))
                have HO9 := Lib.hid hown9
                have HN9 : Hid (∀ b, inA A9 b → ¬ Sx Sk wr w8 b) := Lib.hid (fun b hb hS => by
                  have hb' : (Value.slice A9 (0 + 1) c9).ownBlock = some b := by
                    cases A9 with
                    | none => exact absurd hb inA_none
                    | some a => simp [Value.ownBlock, inA_some.1 hb]
                  rcases hblk with h | h
                  · rw [h] at hb'
                    have h2 : inA A' b := by
                      cases hAe : (A' : Option Addr) with
                      | none => rw [hAe] at hb'; cases hb'
                      | some a => rw [hAe] at hb'; simp [Value.ownBlock] at hb'; exact inA_some.2 hb'
                    exact (HN8.out b h2).1 hS
                  · rw [h] at hb'
                    have h3 : b = w8.heap.size + 1 := by injection hb' with hb'; simpa using hb'.symm
                    have := (HM8.out.sl b hS).1
                    omega)
                have hs9' : Q ≤ w9.heap.size := by have := hb9.size; omega
                rw [hv]
                clear hown' hgrow hblk hv hown9 hb9 ho9
                go_wp2_with fail
                go_roundw
                case rel => exact ⟨0 + 1, A9, c9, ([] : List Int) ++ [y], A8, c8, Nk + 1, _, by omega, by go_num, rfl, HTk2, HM9, by omega, HO9, HN9, HU9, HW9, HB9, hs9'⟩
                case measure => simp [intOf] <;> omega
              | succ j =>
                obtain ⟨z, hz⟩ := get_some F j (by omega)
                obtain ⟨bz, oz, rfl, hbz, cz⟩ := HO8.out.rd j z hz
                have hzy := HFy.out z (List.mem_of_getElem? hz)
                have d6 : decide (y ≤ z) = false := decide_eq_false (by omega)
                have q6 : IntKind.i64.wrap (((j + 1 : Nat) : Int) - 1) = (j : Int) := by rw [IntWalk.i64_in _ (by omega)]; omega
                have q7 : IntKind.i64.wrap ((j : Int) + 1 - 1) = (j : Int) := by rw [IntWalk.i64_in _ (by omega)]; omega
                clear hz hbz
                go_wp2_with (at_builtin; refine wpList_append_block rfl _ _ 30 rfl Q 3 i0 _ 1 8 Try.underlying30 hi hz0 hz1 hz2 rfl (by decide) _ _ _ rfl (HO8.out.alloc _).2 ⟨w8.heap.size, 0, none⟩ 1 1 (icells [y]) rfl rfl (newi_one _ y _ rfl) (icells_one _) (by unfold maxLen; omega) (by omega) (by simp; omega) ?_)
                intro v' w9 hown' hgrow hblk
                obtain ⟨⟨A9, c9, hv, hown9⟩, _, hb9, _, _⟩ := appI_step HO8.out (Below.refl _ _) hs8' ((Below.refl _ _).alloc (Nat.le_refl _) _) (m := 1) (K := [y]) rfl hown' hgrow
                rw [hv] at hblk
                have ho9 : Only w8 w9 (inA (some ⟨bz, oz, none⟩)) := (Only.of_below (w := w8) (X := inA (some ⟨bz, oz, none⟩)) ((Below.refl w8.heap.size w8).alloc (Nat.le_refl _) _)).trans (Only.of_grown hgrow (fun g hg => .inl (by cases hAe : ((some ⟨bz, oz, none⟩) : Option Addr) with
                  | none => rw [hAe] at hg; cases hg
                  | some a => rw [hAe] at hg; simp [Value.ownBlock] at hg; exact inA_some.2 hg.symm)))
                have HM9 := Lib.hid (HM8.out.only ho9 (fun g hg hA => by
                  rcases hg with hg | hg
                  · exact (HN8.out g hA).1 hg
                  · have := (row_in HO8.out hA).1; have := hRsQ g hg; omega))
                have HU9 := Lib.hid (HU8.out.below hb9)
                have HW9 := Lib.hid (HW8.out.below hb9)
                have HB9 := Lib.hid (HB8.out.trans (hb9.mono hwQ))
                have HO9 := Lib.hid hown9
                have HN9 : Hid (∀ b, inA A9 b → ¬ Sx Sk wr w8 b) := Lib.hid (fun b hb hS => by
                  have hb' : (Value.slice A9 ((j + 1) + 1) c9).ownBlock = some b := by
                    cases A9 with
                    | none => exact absurd hb inA_none
                    | some a => simp [Value.ownBlock, inA_some.1 hb]
                  rcases hblk with h | h
                  · rw [h] at hb'
                    have h2 : inA (some ⟨bz, oz, none⟩) b := by
                      cases hAe : ((some ⟨bz, oz, none⟩) : Option Addr) with
                      | none => rw [hAe] at hb'; cases hb'
                      | some a => rw [hAe] at hb'; simp [Value.ownBlock] at hb'; exact inA_some.2 hb'
                    exact (HN8.out b h2).1 hS
                  · rw [h] at hb'
                    have h3 : b = w8.heap.size + 1 := by injection hb' with hb'; simpa using hb'.symm
                    have := (HM8.out.sl b hS).1
                    omega)
                have hs9' : Q ≤ w9.heap.size := by have := hb9.size; omega
                rw [hv]
                clear hown' hgrow hblk hv hown9 hb9 ho9
                go_wp2_with fail
                go_roundw
                case rel => exact ⟨(j + 1) + 1, A9, c9, F ++ [y], A8, c8, Nk + 1, _, by omega, by go_num, rfl, HTk2, HM9, by omega, HO9, HN9, HU9, HW9, HB9, hs9'⟩
                case measure => simp [intOf] <;> omega
            · have HA := Lib.hid hall
              clear hall
              go_wp2_with fail
              refine (Take_full hJ.out.sp p0 r1 HA.out).mono ?_
              rintro e w8 ⟨rfl, rfl⟩
              go_wp2_with fail
              go_ret
              exact ⟨rfl, hBl.out⟩
          · obtain rfl : j = 1 + n := by omega
            clear hlt2
            have hlt3 : ¬ ((1 + n : Nat) : Int) < ((1 + n : Nat) : Int) := by omega
            go_wp2_with fail
            refine (Back_ok hJ.out.sp tk.length (by simp) (by simp; omega) (fun x hx => by
              rcases List.mem_append.1 hx with hx | hx
              · have := HP.out.bt x hx; unfold I64; omega
              · have := hTk.out.inn x hx; unfold I64; omega)).mono ?_
            rintro e w8 ⟨u', out, hf, Ao, no, co, rfl, hs8, ho8, hb8, hk8⟩
            rw [List.drop_left, back_F u F [] hTk.out.ris (fun x hx => (hTk.out.nu x hx).1)] at hf
            simp only [List.nil_append, Prod.mk.injEq] at hf
            obtain ⟨rfl, rfl⟩ := hf
            rw [List.take_left] at hs8
            rw [sortI_ris hTk.out.ris] at ho8
            obtain ⟨hm8, hB8, hO8⟩ := hJ.out.prog hs8 hb8 hk8
            have HM8 := Lib.hid hm8
            have HU8 := Lib.hid (hU.out.only hO8 hQs)
            have HW8 := Lib.hid (hW.out.only hO8 hQs)
            have HF8 : Hid (RdI w8 w8.heap.size A' out) := Lib.hid (hown.out.rd.only hO8 hnS.out)
            have HL8 := Lib.hid ho8.rd
            have hno : no = 1 + n := by rw [← ho8.1, hFl]
            have HB8 := Lib.hid (hBl.out.trans hB8)
            have hs8' : Q ≤ w8.heap.size := by have := hO8.size; omega
            have HFL := Lib.hid hFl
            have HNS0 : Hid (∀ b, inA A' b → ¬ Sx Sk wr w8 b) := Lib.hid (fun b hb hS => hS.elim (hnS.out b hb) (fun h1 => by have := (row_in hown.out hb).2; omega))
            have HNS := HNS0
            clear HNS0
            clear hs8 hb8 hk8 hm8 hB8 hO8 ho8 hJ hU hW hown hnS hBl hFl
            subst hno
            go_wp2_with fail
            refine (Ints_true Ao (1 + n) co A' (1 + n) c' _ out HFL.out HL8.out (by omega) rfl HF8.out).mono ?_
            rintro e w9 ⟨rfl, q, rfl⟩
            have hb9 : Below w8.heap.size w8 (w8.drewN q) := belowDrewN (Below.refl _ _) q
            have HM9 := Lib.hid (HM8.out.up hb9)
            have HU9 := Lib.hid (HU8.out.up hb9)
            have HW9 := Lib.hid (HW8.out.up hb9)
            have HF9 := Lib.hid (HF8.out.up hb9)
            have HB9 := Lib.hid (HB8.out.trans (hb9.mono HM8.out.base))
            clear hb9 HM8 HU8 HW8 HF8 HB8 HL8
            generalize w8.drewN q = w9 at *
            go_wp2_with fail
            refine (Mark_any _ sb bu bw res _ wt _ _ tk _ HM9.out.sp).mono ?_
            rintro e w10 ⟨rfl, rfl⟩
            go_wp2_with fail
            refine (Used_any HM9.out.sp U HP.out.uu HP.out.b0 (by omega)).mono ?_
            rintro e w10 ⟨⟨A10, n10, c10, rfl, o10⟩, hb10⟩
            have HM10 := Lib.hid (HM9.out.up hb10)
            have HU10 := Lib.hid (HU9.out.up hb10)
            have HW10 := Lib.hid (HW9.out.up hb10)
            have HF10 := Lib.hid (HF9.out.up hb10)
            have HB10 := Lib.hid (HB9.out.trans (hb10.mono HM9.out.base))
            have R10 := Lib.hid o10.rd; have K10 := Lib.hid o10.1
            have hc10 := o10.cap
            unfold maxLen at hc10
            clear hb10 o10 HM9 HU9 HW9 HF9 HB9
            go_wp2_with fail
            refine (Rg.Same_any A10 n10 c10 A5 n5 c5 _ (Rg.nl (U.map unit1)) (Rg.nl (U.map unit1)) K10.out R10.out (by omega) KU.out HU10.out.rd (by omega)).mono ?_
            rintro e w11 ⟨rfl, hb11⟩
            rw [show decide (Rg.nl (U.map unit1) = Rg.nl (U.map unit1)) = true from decide_eq_true rfl]
            have HM11 := Lib.hid (HM10.out.up hb11)
            have HW11 := Lib.hid (HW10.out.up hb11)
            have HF11 := Lib.hid (HF10.out.up hb11)
            have HB11 := Lib.hid (HB10.out.trans (hb11.mono HM10.out.base))
            clear hb11 HM10 HU10 HW10 HF10 HB10 R10
            go_wp2_with fail
            refine (Waiting_any HM11.out.sp W HP.out.ww HP.out.w0 (by omega)).mono ?_
            rintro e w12 ⟨⟨A12, n12, c12, rfl, o12⟩, hb12⟩
            have HM12 := Lib.hid (HM11.out.up hb12)
            have HW12 := Lib.hid (HW11.out.up hb12)
            have HF12 := Lib.hid (HF11.out.up hb12)
            have HB12 := Lib.hid (HB11.out.trans (hb12.mono HM11.out.base))
            have R12 := Lib.hid o12.rd; have K12 := Lib.hid o12.1
            have hc12 := o12.cap
            unfold maxLen at hc12
            clear hb12 o12 HM11 HW11 HF11 HB11
            go_wp2_with fail
            refine (Rg.Same_any A12 n12 c12 A6 n6 c6 _ (Rg.nl (W.map unit1)) (Rg.nl (W.map unit1)) K12.out R12.out (by omega) KW.out HW12.out.rd (by omega)).mono ?_
            rintro e w13 ⟨rfl, hb13⟩
            rw [show decide (Rg.nl (W.map unit1) = Rg.nl (W.map unit1)) = true from decide_eq_true rfl]
            have HM13 := Lib.hid (HM12.out.up hb13)
            have HF13 := Lib.hid (HF12.out.up hb13)
            have HB13 := Lib.hid (HB12.out.trans (hb13.mono HM12.out.base))
            clear hb13 HM12 HW12 HF12 HB12 R12
            obtain ⟨y, hy⟩ := get_some out 0 (by have := HFL.out; omega)
            have hyi := hTk.out.inn y (List.mem_of_getElem? hy)
            have hyn := hTk.out.nu y (List.mem_of_getElem? hy)
            have HYN := Lib.hid hyn
            have HYF := Lib.hid (hTk.out.first y hy)
            have HY := Lib.hid hy
            clear hyn hy
            go_wp2_with fail
            refine (Take_any _ sb bu bw res _ wt _ _ tk _ HM13.out.sp y p0 hyi.1 hyi.2 HYN.out.1 HYN.out.2 HYF.out (by omega) (by omega)).mono ?_
            rintro e w14 ⟨rfl, ⟨A14, c14, hs14, hk14⟩, hb14⟩
            obtain ⟨hm14, hB14, hO14⟩ := HM13.out.prog hs14 hb14 hk14
            have hB15 := HB13.out.trans hB14
            have hF14 : RdI w14 w14.heap.size A' out := HF13.out.only hO14 (fun b hb => HNS.out b hb)
            obtain ⟨by_, oy, rfl, hby, cy⟩ := hF14 0 y HY.out
            have HB15 := Lib.hid hB15
            simp only [Nat.add_zero] at cy
            have hz0 : (0 : Int) < ((1 + n : Nat) : Int) := by omega
            have hz9 : 0 < 1 + n := by omega
            clear hs14 hk14 hb14 hm14 hB14 hO14 hB15 hF14 hby
            go_wp2_with fail
            go_ret
            exact ⟨rfl, HB15.out⟩
    · obtain rfl : k = len1 := by omega
      clear h1
      obtain ⟨u, wt, A, c, tk, U, W, T, N, S, Rs, hm, hp⟩ := hSt.out
      have HM := Lib.hid hm; have HP := Lib.hid hp
      have hlt := hp.lt; have hln := hp.ln
      have hBs := hB.out.size
      clear hm hp hSt
      go_wp2_with fail
      refine (Used_any HM.out.sp U HP.out.uu HP.out.b0 (by omega)).mono ?_
      rintro e w5 ⟨⟨A5, n5, c5, rfl, o5⟩, hb5⟩
      have HM5 := Lib.hid (HM.out.up hb5)
      have HU5 : Hid (Bs w5 A5 (Rg.nl (U.map unit1)) S w5.heap.size) := Lib.hid ⟨o5.rd, fun b hb hS => by have := (rowR_in o5 hb).1; have := (HM.out.sl b hS).1; omega, fun b hb => (rowR_in o5 hb).2⟩
      have KU := Lib.hid o5.1
      have hcu := o5.cap
      unfold maxLen at hcu
      have HB5 := Lib.hid (hB.out.trans (hb5.mono HM.out.base))
      clear o5 hb5
      go_wp2_with fail
      refine (Waiting_any HM5.out.sp W HP.out.ww HP.out.w0 (by omega)).mono ?_
      rintro e w6 ⟨⟨A6, n6, c6, rfl, o6⟩, hb6⟩
      have HM6 := Lib.hid (HM5.out.up hb6)
      have HU6 : Hid (Bs w6 A5 (Rg.nl (U.map unit1)) S w6.heap.size) := Lib.hid ⟨(HU5.out.up hb6).rd, HU5.out.ns, fun b hb => Nat.lt_of_lt_of_le (HU5.out.lt b hb) hb6.size⟩
      have HW6 : Hid (Bs w6 A6 (Rg.nl (W.map unit1)) S w6.heap.size) := Lib.hid ⟨o6.rd, fun b hb hS => by have := (rowR_in o6 hb).1; have := (HM5.out.sl b hS).1; omega, fun b hb => (rowR_in o6 hb).2⟩
      have KW := Lib.hid o6.1
      have hcw := o6.cap
      unfold maxLen at hcw
      have HB6 := Lib.hid (HB5.out.trans (hb6.mono HM5.out.base))
      clear o6 hb6 HM5 HU5 HB5 HM
      go_wp2_with fail
      refine (Mark_any _ sb bu bw res u wt A c tk N HM6.out.sp).mono ?_
      rintro e w7 ⟨rfl, rfl⟩
      go_wp2_with fail
      have hRsQ : ∀ b, Rs b → b < w6.heap.size := HM6.out.rf.lt
      obtain ⟨Q, hQ⟩ : ∃ Q, Q = w6.heap.size := ⟨_, rfl⟩
      rw [← hQ] at HU6 HW6 hRsQ
      have HQ := Lib.hid hQ
      have hwQ : w.heap.size ≤ Q := by have := HB6.out.size; omega
      clear hQ
      go_loopw [14, 15] (fun v i wr => ∃ (k : Nat) (A' : Option Addr) (c' : Nat) (F : List Int) (Ak : Option Addr) (ck Nk : Nat) (Sk : Nat → Prop), k ≤ 1 + n ∧ i = .int .i64 k ∧ v = .slice A' k c' ∧ Hid (Tk res u wt F) ∧ Hid (Jm wr w.heap.size sb bu bw p res (uF u F) wt Ak ck (tk ++ F) U W T Nk Sk Rs) ∧ Nk ≤ 2400 + k ∧ Hid (OwnI wr Q A' k c' F) ∧ Hid (∀ b, inA A' b → ¬ Sk b) ∧ Hid (Bs wr A5 (Rg.nl (U.map unit1)) Sk Q) ∧ Hid (Bs wr A6 (Rg.nl (W.map unit1)) Sk Q) ∧ Hid (Below w.heap.size w wr) ∧ Q ≤ wr.heap.size) (fun _ i _ => 1 + n - (intOf i).toNat)
      case atStart => exact ⟨0, none, 0, [], A, c, N, S, Nat.zero_le _, rfl, rfl, Lib.hid (Tk.nil _ _ _), Lib.hid (by rw [uF_nil, List.append_nil]; exact HM6.out), by omega, Lib.hid (OwnI.nil _ _), Lib.hid (fun b hb => absurd hb inA_none), HU6, HW6, HB6, by have := HQ.out; omega⟩
      case round =>
        clear HM6 HU6 HW6 HB6
        obtain ⟨j, A', c', F, Ak, ck, Nk, Sk, hj, rfl, rfl, hTk, hJ, hNk, hown, hnS, hU, hW, hBl, hQs⟩ := hrel
        have hFl : F.length = j := hown.out.1
        by_cases hlt2 : j < 1 + n
        · have d5 : decide ((j : Int) < ((1 + n : Nat) : Int)) = true := decide_eq_true (by omega)
          have hlt3 : (j : Int) < ((1 + n : Nat) : Int) := by omega
          rcases least_free res r1 (fun x => uF u F x = true ∨ wt x = true) with ⟨y, y0, y1, y2, y3⟩ | hall
          · have yu : uF u F y = false := by cases hx : uF u F y with
              | false => rfl
              | true => exact absurd (.inl hx) y2
            have yw : wt y = false := by cases hx : wt y with
              | false => rfl
              | true => exact absurd (.inr hx) y2
            obtain ⟨htk2, hFy⟩ := hTk.out.snoc y y0 y1 yu yw y3
            have HTk2 := Lib.hid htk2
            have HFy := Lib.hid hFy
            have HY3 := Lib.hid y3; have HYU := Lib.hid yu; have HYW := Lib.hid yw
            clear y2 y3 yu yw htk2 hFy
            go_wp2_with fail
            refine (Take_any _ sb bu bw res (uF u F) wt Ak ck (tk ++ F) Nk hJ.out.sp y p0 y0 y1 HYU.out HYW.out HY3.out (by omega) (by simp; omega)).mono ?_
            rintro e w8 ⟨rfl, ⟨A8, c8, hs8, hk8⟩, hb8⟩
            obtain ⟨hm8, hB8, ho8⟩ := hJ.out.prog hs8 hb8 hk8
            rw [uF_snoc, List.append_assoc] at hm8
            have HM8 := Lib.hid hm8
            have HU8 := Lib.hid (hU.out.only ho8 hQs)
            have HW8 := Lib.hid (hW.out.only ho8 hQs)
            have HO8 : Hid (OwnI w8 Q A' j c' F) := Lib.hid (hown.out.same (fun b hb => ho8.rest b (row_in hown.out hb).2 (hnS.out b hb)))
            have HN8 : Hid (∀ b, inA A' b → ¬ Sx Sk wr w8 b ∧ b < w8.heap.size) := Lib.hid (fun b hb => ⟨fun h => h.elim (hnS.out b hb) (fun h1 => by have := (row_in hown.out hb).2; omega), Nat.lt_of_lt_of_le (row_in hown.out hb).2 ho8.size⟩)
            have HB8 := Lib.hid (hBl.out.trans hB8)
            have hs8' : Q ≤ w8.heap.size := by have := ho8.size; omega
            clear hs8 hb8 hk8 hm8 hB8 ho8 hJ hU hW hown hnS hBl
            have TAIL : True := trivial
            cases j with
            | zero =>
              obtain rfl : F = [] := List.eq_nil_of_length_eq_zero hFl
              go_wp2_with (at_builtin; refine wpList_append_block rfl _ _ 30 rfl Q 3 i0 _ 1 8 Try.underlying30 hi hz0 hz1 hz2 rfl (by decide) _ _ _ rfl (HO8.out.alloc _).2 ⟨w8.heap.size, 0, none⟩ 1 1 (icells [y]) rfl rfl (newi_one _ y _ rfl) (icells_one _) (by unfold maxLen; omega) (by omega) (by simp; omega) ?_)
              intro v' w9 hown' hgrow hblk
              obtain ⟨⟨A9, c9, hv, hown9⟩, _, hb9, _, _⟩ := appI_step HO8.out (Below.refl _ _) hs8' ((Below.refl _ _).alloc (Nat.le_refl _) _) (m := 1) (K := [y]) rfl hown' hgrow
              rw [hv] at hblk
              have ho9 : Only w8 w9 (inA A') := (Only.of_below (w := w8) (X := inA A') ((Below.refl w8.heap.size w8).alloc (Nat.le_refl _) _)).trans (Only.of_grown hgrow (fun g hg => .inl (by cases hAe : (A' : Option Addr) with
                | none => rw [hAe] at hg; cases hg
                | some a => rw [hAe] at hg; simp [Value.ownBlock] at hg; exact inA_some.2 hg.symm)))
              have HM9 := Lib.hid (HM8.out.only ho9 (fun g hg hA => by
                rcases hg with hg | hg
                · exact (HN8.out g hA).1 hg
                · have := (row_in HO8.out hA).1; have := hRsQ g hg; omega))
              have HU9 := Lib.hid (HU8.out.below hb9)
              have HW9 := Lib.hid (HW8.out.below hb9)
              have HB9 := Lib.hid (HB8.out.trans (hb9.mono hwQ))
              have HO9 := Lib.hid hown9
              have HN9 : Hid (∀ b, inA A9 b → ¬ Sx Sk wr w8 b) := Lib.hid (fun b hb hS => by
                have hb' : (Value.slice A9 (0 + 1) c9).ownBlock = some b := by
                  cases A9 with
                  | none => exact absurd hb inA_none
                  | some a => simp [Value.ownBlock, inA_some.1 hb]
                rcases hblk with h | h
                · rw [h] at hb'
                  have h2 : inA A' b := by
                    cases hAe : (A' : Option Addr) with
                    | none => rw [hAe] at hb'; cases hb'
                    | some a => rw [hAe] at hb'; simp [Value.ownBlock] at hb'; exact inA_some.2 hb'
                  exact (HN8.out b h2).1 hS
                · rw [h] at hb'
                  have h3 : b = w8.heap.size + 1 := by injection hb' with hb'; simpa using hb'.symm
                  have := (HM8.out.sl b hS).1
                  omega)
              have hs9' : Q ≤ w9.heap.size := by have := hb9.size; omega
              rw [hv]
              clear hown' hgrow hblk hv hown9 hb9 ho9
              go_wp2_with fail
              go_roundw
              case rel => exact ⟨0 + 1, A9, c9, ([] : List Int) ++ [y], A8, c8, Nk + 1, _, by omega, by go_num, rfl, HTk2, HM9, by omega, HO9, HN9, HU9, HW9, HB9, hs9'⟩
              case measure => simp [intOf] <;> omega
            | succ j =>
              obtain ⟨z, hz⟩ := get_some F j (by omega)
              obtain ⟨bz, oz, rfl, hbz, cz⟩ := HO8.out.rd j z hz
              have hzy := HFy.out z (List.mem_of_getElem? hz)
              have d6 : decide (y ≤ z) = false := decide_eq_false (by omega)
              have q6 : IntKind.i64.wrap (((j + 1 : Nat) : Int) - 1) = (j : Int) := by rw [IntWalk.i64_in _ (by omega)]; omega
              have q7 : IntKind.i64.wrap ((j : Int) + 1 - 1) = (j : Int) := by rw [IntWalk.i64_in _ (by omega)]; omega
              clear hz hbz
              go_wp2_with (at_builtin; refine wpList_append_block rfl _ _ 30 rfl Q 3 i0 _ 1 8 Try.underlying30 hi hz0 hz1 hz2 rfl (by decide) _ _ _ rfl (HO8.out.alloc _).2 ⟨w8.heap.size, 0, none⟩ 1 1 (icells [y]) rfl rfl (newi_one _ y _ rfl) (icells_one _) (by unfold maxLen; omega) (by omega) (by simp; omega) ?_)
              intro v' w9 hown' hgrow hblk
              obtain ⟨⟨A9, c9, hv, hown9⟩, _, hb9, _, _⟩ := appI_step HO8.out (Below.refl _ _) hs8' ((Below.refl _ _).alloc (Nat.le_refl _) _) (m := 1) (K := [y]) rfl hown' hgrow
              rw [hv] at hblk
              have ho9 : Only w8 w9 (inA (some ⟨bz, oz, none⟩)) := (Only.of_below (w := w8) (X := inA (some ⟨bz, oz, none⟩)) ((Below.refl w8.heap.size w8).alloc (Nat.le_refl _) _)).trans (Only.of_grown hgrow (fun g hg => .inl (by cases hAe : ((some ⟨bz, oz, none⟩) : Option Addr) with
                | none => rw [hAe] at hg; cases hg
                | some a => rw [hAe] at hg; simp [Value.ownBlock] at hg; exact inA_some.2 hg.symm)))
              have HM9 := Lib.hid (HM8.out.only ho9 (fun g hg hA => by
                rcases hg with hg | hg
                · exact (HN8.out g hA).1 hg
                · have := (row_in HO8.out hA).1; have := hRsQ g hg; omega))
              have HU9 := Lib.hid (HU8.out.below hb9)
              have HW9 := Lib.hid (HW8.out.below hb9)
              have HB9 := Lib.hid (HB8.out.trans (hb9.mono hwQ))
              have HO9 := Lib.hid hown9
              have HN9 : Hid (∀ b, inA A9 b → ¬ Sx Sk wr w8 b) := Lib.hid (fun b hb hS => by
                have hb' : (Value.slice A9 ((j + 1) + 1) c9).ownBlock = some b := by
                  cases A9 with
                  | none => exact absurd hb inA_none
                  | some a => simp [Value.ownBlock, inA_some.1 hb]
                rcases hblk with h | h
                · rw [h] at hb'
                  have h2 : inA (some ⟨bz, oz, none⟩) b := by
                    cases hAe : ((some ⟨bz, oz, none⟩) : Option Addr) with
                    | none => rw [hAe] at hb'; cases hb'
                    | some a => rw [hAe] at hb'; simp [Value.ownBlock] at hb'; exact inA_some.2 hb'
                  exact (HN8.out b h2).1 hS
                · rw [h] at hb'
                  have h3 : b = w8.heap.size + 1 := by injection hb' with hb'; simpa using hb'.symm
                  have := (HM8.out.sl b hS).1
                  omega)
              have hs9' : Q ≤ w9.heap.size := by have := hb9.size; omega
              rw [hv]
              clear hown' hgrow hblk hv hown9 hb9 ho9
              go_wp2_with fail
              go_roundw
              case rel => exact ⟨(j + 1) + 1, A9, c9, F ++ [y], A8, c8, Nk + 1, _, by omega, by go_num, rfl, HTk2, HM9, by omega, HO9, HN9, HU9, HW9, HB9, hs9'⟩
              case measure => simp [intOf] <;> omega
          · have HA := Lib.hid hall
            clear hall
            go_wp2_with fail
            refine (Take_full hJ.out.sp p0 r1 HA.out).mono ?_
            rintro e w8 ⟨rfl, rfl⟩
            go_wp2_with fail
            go_ret
            exact ⟨rfl, hBl.out⟩
        · obtain rfl : j = 1 + n := by omega
          clear hlt2
          have hlt3 : ¬ ((1 + n : Nat) : Int) < ((1 + n : Nat) : Int) := by omega
          go_wp2_with fail
          refine (Back_ok hJ.out.sp tk.length (by simp) (by simp; omega) (fun x hx => by
            rcases List.mem_append.1 hx with hx | hx
            · have := HP.out.bt x hx; unfold I64; omega
            · have := hTk.out.inn x hx; unfold I64; omega)).mono ?_
          rintro e w8 ⟨u', out, hf, Ao, no, co, rfl, hs8, ho8, hb8, hk8⟩
          rw [List.drop_left, back_F u F [] hTk.out.ris (fun x hx => (hTk.out.nu x hx).1)] at hf
          simp only [List.nil_append, Prod.mk.injEq] at hf
          obtain ⟨rfl, rfl⟩ := hf
          rw [List.take_left] at hs8
          rw [sortI_ris hTk.out.ris] at ho8
          obtain ⟨hm8, hB8, hO8⟩ := hJ.out.prog hs8 hb8 hk8
          have HM8 := Lib.hid hm8
          have HU8 := Lib.hid (hU.out.only hO8 hQs)
          have HW8 := Lib.hid (hW.out.only hO8 hQs)
          have HF8 : Hid (RdI w8 w8.heap.size A' out) := Lib.hid (hown.out.rd.only hO8 hnS.out)
          have HL8 := Lib.hid ho8.rd
          have hno : no = 1 + n := by rw [← ho8.1, hFl]
          have HB8 := Lib.hid (hBl.out.trans hB8)
          have hs8' : Q ≤ w8.heap.size := by have := hO8.size; omega
          have HFL := Lib.hid hFl
          have HNS0 : Hid (∀ b, inA A' b → ¬ Sx Sk wr w8 b) := Lib.hid (fun b hb hS => hS.elim (hnS.out b hb) (fun h1 => by have := (row_in hown.out hb).2; omega))
          have HNS := HNS0
          clear HNS0
          clear hs8 hb8 hk8 hm8 hB8 hO8 ho8 hJ hU hW hown hnS hBl hFl
          subst hno
          go_wp2_with fail
          refine (Ints_true Ao (1 + n) co A' (1 + n) c' _ out HFL.out HL8.out (by omega) rfl HF8.out).mono ?_
          rintro e w9 ⟨rfl, q, rfl⟩
          have hb9 : Below w8.heap.size w8 (w8.drewN q) := belowDrewN (Below.refl _ _) q
          have HM9 := Lib.hid (HM8.out.up hb9)
          have HU9 := Lib.hid (HU8.out.up hb9)
          have HW9 := Lib.hid (HW8.out.up hb9)
          have HF9 := Lib.hid (HF8.out.up hb9)
          have HB9 := Lib.hid (HB8.out.trans (hb9.mono HM8.out.base))
          clear hb9 HM8 HU8 HW8 HF8 HB8 HL8
          generalize w8.drewN q = w9 at *
          go_wp2_with fail
          refine (Mark_any _ sb bu bw res _ wt _ _ tk _ HM9.out.sp).mono ?_
          rintro e w10 ⟨rfl, rfl⟩
          go_wp2_with fail
          refine (Used_any HM9.out.sp U HP.out.uu HP.out.b0 (by omega)).mono ?_
          rintro e w10 ⟨⟨A10, n10, c10, rfl, o10⟩, hb10⟩
          have HM10 := Lib.hid (HM9.out.up hb10)
          have HU10 := Lib.hid (HU9.out.up hb10)
          have HW10 := Lib.hid (HW9.out.up hb10)
          have HF10 := Lib.hid (HF9.out.up hb10)
          have HB10 := Lib.hid (HB9.out.trans (hb10.mono HM9.out.base))
          have R10 := Lib.hid o10.rd; have K10 := Lib.hid o10.1
          have hc10 := o10.cap
          unfold maxLen at hc10
          clear hb10 o10 HM9 HU9 HW9 HF9 HB9
          go_wp2_with fail
          refine (Rg.Same_any A10 n10 c10 A5 n5 c5 _ (Rg.nl (U.map unit1)) (Rg.nl (U.map unit1)) K10.out R10.out (by omega) KU.out HU10.out.rd (by omega)).mono ?_
          rintro e w11 ⟨rfl, hb11⟩
          rw [show decide (Rg.nl (U.map unit1) = Rg.nl (U.map unit1)) = true from decide_eq_true rfl]
          have HM11 := Lib.hid (HM10.out.up hb11)
          have HW11 := Lib.hid (HW10.out.up hb11)
          have HF11 := Lib.hid (HF10.out.up hb11)
          have HB11 := Lib.hid (HB10.out.trans (hb11.mono HM10.out.base))
          clear hb11 HM10 HU10 HW10 HF10 HB10 R10
          go_wp2_with fail
          refine (Waiting_any HM11.out.sp W HP.out.ww HP.out.w0 (by omega)).mono ?_
          rintro e w12 ⟨⟨A12, n12, c12, rfl, o12⟩, hb12⟩
          have HM12 := Lib.hid (HM11.out.up hb12)
          have HW12 := Lib.hid (HW11.out.up hb12)
          have HF12 := Lib.hid (HF11.out.up hb12)
          have HB12 := Lib.hid (HB11.out.trans (hb12.mono HM11.out.base))
          have R12 := Lib.hid o12.rd; have K12 := Lib.hid o12.1
          have hc12 := o12.cap
          unfold maxLen at hc12
          clear hb12 o12 HM11 HW11 HF11 HB11
          go_wp2_with fail
          refine (Rg.Same_any A12 n12 c12 A6 n6 c6 _ (Rg.nl (W.map unit1)) (Rg.nl (W.map unit1)) K12.out R12.out (by omega) KW.out HW12.out.rd (by omega)).mono ?_
          rintro e w13 ⟨rfl, hb13⟩
          rw [show decide (Rg.nl (W.map unit1) = Rg.nl (W.map unit1)) = true from decide_eq_true rfl]
          have HM13 := Lib.hid (HM12.out.up hb13)
          have HF13 := Lib.hid (HF12.out.up hb13)
          have HB13 := Lib.hid (HB12.out.trans (hb13.mono HM12.out.base))
          clear hb13 HM12 HW12 HF12 HB12 R12
          obtain ⟨y, hy⟩ := get_some out 0 (by have := HFL.out; omega)
          have hyi := hTk.out.inn y (List.mem_of_getElem? hy)
          have hyn := hTk.out.nu y (List.mem_of_getElem? hy)
          have HYN := Lib.hid hyn
          have HYF := Lib.hid (hTk.out.first y hy)
          have HY := Lib.hid hy
          clear hyn hy
          go_wp2_with fail
          refine (Take_any _ sb bu bw res _ wt _ _ tk _ HM13.out.sp y p0 hyi.1 hyi.2 HYN.out.1 HYN.out.2 HYF.out (by omega) (by omega)).mono ?_
          rintro e w14 ⟨rfl, ⟨A14, c14, hs14, hk14⟩, hb14⟩
          obtain ⟨hm14, hB14, hO14⟩ := HM13.out.prog hs14 hb14 hk14
          have hB15 := HB13.out.trans hB14
          have hF14 : RdI w14 w14.heap.size A' out := HF13.out.only hO14 (fun b hb => HNS.out b hb)
          obtain ⟨by_, oy, rfl, hby, cy⟩ := hF14 0 y HY.out
          have HB15 := Lib.hid hB15
          simp only [Nat.add_zero] at cy
          have hz0 : (0 : Int) < ((1 + n : Nat) : Int) := by omega
          have hz9 : 0 < 1 + n := by omega
          clear hs14 hk14 hb14 hm14 hB14 hO14 hB15 hF14 hby
          go_wp2_with fail
          go_ret
          exact ⟨rfl, HB15.out⟩
end Go.Proofs.Ytobeppeadkoieaa
