/-
  That the law ScrapTexts returns true, for every two sources, every list, all numbers and every list put in.
-/
import Derived.Test.YtlgablhlpcmcaaaFew
namespace Go.Proofs.Ytlgablhlpcmcaaa
open Go.RowKit
/-- What is kept of the sources and of two lists, from call to call. -/
structure Ks (w0 w : World) (As : Option Addr) (srcs : List (List Int)) (A : Option Addr) (a : List S) (B : Option Addr) (b : List S) : Prop where
  bel : Below w0.heap.size w0 w
  src : RdBL w w.heap.size As srcs
  la : Rd w w.heap.size A a
  lb : Rd w w.heap.size B b
theorem Ks.up {w0 w w' : World} {As : Option Addr} {srcs : List (List Int)} {A : Option Addr} {a : List S} {B : Option Addr} {b : List S} (h : Ks w0 w As srcs A a B b) (hb : Below w.heap.size w w') : Ks w0 w' As srcs A a B b :=
  ⟨below_up h.bel hb, h.src.up hb, h.la.up hb, h.lb.up hb⟩
theorem TextE_ok {srcs : List (List Int)} {l : List S} (h : Hass srcs l) (hm : MayP l) : TextE srcs l = 0 ∧ TextL srcs l = textB srcs l := by
  have h1 : TextE srcs l = 0 := by unfold TextE; rw [if_pos hm]; exact textE_all h
  exact ⟨h1, TextL_ok h1⟩
theorem RdB.cutFrom {w : World} {B : Nat} {A : Option Addr} {l : List Int} (h : RdB w B A l) (k cap : Nat) (hc : l.length ≤ cap) : RdB w B (if cap = k then A else A.map (·.add k)) (l.drop k) := by
  intro j v hj
  rw [List.getElem?_drop] at hj
  have hlt := (List.getElem?_eq_some_iff.1 hj).1
  rw [if_neg (by omega)]
  obtain ⟨b, off, rfl, hb, hcell⟩ := h _ _ hj
  refine ⟨b, off + k, ?_, hb, by rw [Nat.add_assoc]; exact hcell⟩
  simp only [Option.map_some, Addr.add]
  split <;> simp_all
theorem RdB.takeB {w : World} {B : Nat} {A : Option Addr} {l : List Int} (h : RdB w B A l) (k : Nat) : RdB w B A (l.take k) := by
  intro j s hs
  rw [List.getElem?_take] at hs
  split at hs
  · exact h j s hs
  · cases hs
set_option maxHeartbeats 1600000 in
set_option maxRecDepth 100000 in
theorem texts_walk (A0 : Option Addr) (n0 c0 : Nat) (A1 : Option Addr) (n1 c1 : Nat) (A : Option Addr) (len cap : Nat) (at_ n : Int) (Ap : Option Addr) (lenp capp : Nat) (w : World) (x0 x1 : List Int) (l put : List S)
    (hx0 : x0.length = n0) (hr0 : RdB w w.heap.size A0 x0) (hc0 : n0 ≤ c0) (hm0 : c0 ≤ maxLen) (hx1 : x1.length = n1) (hr1 : RdB w w.heap.size A1 x1) (hc1 : n1 ≤ c1) (hm1 : c1 ≤ maxLen)
    (hlen : l.length = len) (hr : Rd w w.heap.size A l) (hm : len ≤ 9223372036854775807)
    (hwf : ∀ s ∈ l, -9223372036854775808 ≤ s.src ∧ s.src ≤ 9223372036854775807 ∧ -9223372036854775808 ≤ s.at_ ∧ s.at_ ≤ 9223372036854775807 ∧ -9223372036854775808 ≤ s.len ∧ s.len ≤ 9223372036854775807)
    (a0 : -9223372036854775808 ≤ at_) (a1 : at_ ≤ 9223372036854775807) (b0 : -9223372036854775808 ≤ n) (b1 : n ≤ 9223372036854775807)
    (hlenp : put.length = lenp) (hrp : Rd w w.heap.size Ap put) (hmp : lenp ≤ 9223372036854775807)
    (hwfp : ∀ s ∈ put, -9223372036854775808 ≤ s.src ∧ s.src ≤ 9223372036854775807 ∧ -9223372036854775808 ≤ s.at_ ∧ s.at_ ≤ 9223372036854775807 ∧ -9223372036854775808 ≤ s.len ∧ s.len ≤ 9223372036854775807) :
    Calls Try.prog 4 #[.agg #[.slice A0 n0 c0, .slice A1 n1 c1], .slice A len cap, .int .i64 at_, .int .i64 n, .slice Ap lenp capp] w fun e w' => e = .returned (.bool true) ∧ Below w.heap.size w w' := by
  obtain ⟨i0, hi, hz0, hz1, hz2⟩ := info_parts info5
  have H0 := Lib.hid hx0; have HR0 := Lib.hid hr0; have H1 := Lib.hid hx1; have HR1 := Lib.hid hr1
  have H := Lib.hid hlen; have HR := Lib.hid hr; have HW := Lib.hid hwf
  have H' := Lib.hid hlenp; have HRp := Lib.hid hrp; have HWp := Lib.hid hwfp
  have HC := Lib.hid (⟨hc0, hm0, hc1, hm1⟩ : n0 ≤ c0 ∧ c0 ≤ maxLen ∧ n1 ≤ c1 ∧ c1 ≤ maxLen)
  clear hx0 hr0 hx1 hr1 hlen hr hwf hlenp hrp hwfp hc0 hm0 hc1 hm1
  by_cases hbig : 3000 < n0 ∨ 3000 < n1
  · go_enter Try.func4, Try.ntmps4
    go_wp2_with fail
    refine (awake_any _).mono ?_
    rintro e w1 ⟨rfl, hb⟩
    have hb1 := (Below.alloc (Below.refl w.heap.size w) (Nat.le_refl _) (.cells #[.slice A0 n0 c0, .slice A1 n1 c1] 36)).trans (hb.mono (by simp))
    have hcl := hb.cell (p := ⟨w.heap.size, 0, none⟩) (by simp)
    have hcl1 := hb.cell (p := ⟨w.heap.size, 1, none⟩) (by simp)
    rw [cell_new] at hcl hcl1
    simp at hcl hcl1
    have HB1 := Lib.hid hb1
    clear hb hb1
    by_cases h0 : 3000 < n0
    · clear hbig
      go_wp2_with fail
      refine (awake_any _).mono ?_
      rintro e w2 ⟨rfl, hb⟩
      have HB2 := Lib.hid (below_up HB1.out hb)
      clear hb
      go_wp2_with fail
      go_ret
      exact ⟨rfl, HB2.out⟩
    · have h1 : 3000 < n1 := by omega
      clear hbig
      go_wp2_with fail
      refine (awake_any _).mono ?_
      rintro e w2 ⟨rfl, hb⟩
      have HB2 := Lib.hid (below_up HB1.out hb)
      clear hb
      go_wp2_with fail
      go_ret
      exact ⟨rfl, HB2.out⟩
  · have h0 : n0 ≤ 3000 := by omega
    have h1 : n1 ≤ 3000 := by omega
    have hS : Srcs [x0, x1] := ⟨x0, x1, rfl, by rw [H0.out]; exact h0, by rw [H1.out]; exact h1⟩
    have HS := Lib.hid hS
    clear hbig hS
    go_enter Try.func4, Try.ntmps4
    go_wp2_with fail
    refine (awake_any _).mono ?_
    rintro e w1 ⟨rfl, hb⟩
    have hb1 := (Below.alloc (Below.refl w.heap.size w) (Nat.le_refl _) (.cells #[.slice A0 n0 c0, .slice A1 n1 c1] 36)).trans (hb.mono (by simp))
    have hcl := hb.cell (p := ⟨w.heap.size, 0, none⟩) (by simp)
    have hcl1 := hb.cell (p := ⟨w.heap.size, 1, none⟩) (by simp)
    rw [cell_new] at hcl hcl1
    simp at hcl hcl1
    have HB1 := Lib.hid hb1
    have HX0 := Lib.hid (HR0.out.up hb1)
    have HX1 := Lib.hid (HR1.out.up hb1)
    have HL1 := Lib.hid (HR.out.up hb1)
    have HP1 := Lib.hid (HRp.out.up hb1)
    have HSr := Lib.hid (RdBL.two HX0.out H0.out HC.out.1 HC.out.2.1 HX1.out H1.out HC.out.2.2.1 HC.out.2.2.2 34 w1.heap.size rfl)
    clear hb hb1
    go_wp2_with fail
    refine (few_any A len cap (some ⟨w1.heap.size, 0, none⟩) _ l [x0, x1] H.out ((HL1.out.alloc (Nat.le_refl _) _).more (by simp)) hm HW.out HS.out HSr.out).mono ?_
    rintro e w2 ⟨⟨La, A2, m2, c2, rfl, hm2, hfa, hown⟩, hb⟩
    have hba := (Below.alloc (Below.refl w1.heap.size w1) (Nat.le_refl _) (.cells #[.slice A0 n0 c0, .slice A1 n1 c1] 34)).trans (hb.mono (by simp))
    have HB2 := Lib.hid (below_up HB1.out hba)
    have HP2 := Lib.hid (HP1.out.up hba)
    have HSr2 := Lib.hid (HSr.out.up hb)
    have HFa := Lib.hid hfa
    have HOa := Lib.hid hown
    clear hb hba hfa hown
    go_wp2_with fail
    refine (few_any Ap lenp capp (some ⟨w1.heap.size, 0, none⟩) _ put [x0, x1] H'.out HP2.out hmp HWp.out HS.out HSr2.out).mono ?_
    rintro e w3 ⟨⟨Lb, A3, m3, c3, rfl, hm3, hfb, hown⟩, hb⟩
    have K3 := Lib.hid (⟨below_up HB2.out hb, HSr2.out.up hb, HOa.out.rd.up hb, hown.rd⟩ : Ks w w3 (some ⟨w1.heap.size, 0, none⟩) [x0, x1] A2 La A3 Lb)
    have HLa := Lib.hid HOa.out.1
    have HLb := Lib.hid hown.1
    obtain ⟨mA, tA⟩ := HFa.out.may HS.out (by rw [HLa.out]; exact hm2)
    obtain ⟨mB, tB⟩ := hfb.may HS.out (by rw [HLb.out]; exact hm3)
    obtain ⟨eA, lA⟩ := TextE_ok HFa.out.1 mA
    obtain ⟨eB, lB⟩ := TextE_ok hfb.1 mB
    have tA0 := tot_nonneg La mA.1
    have tB0 := tot_nonneg Lb mB.1
    have lxA := textB_length HFa.out.1 mA.1
    have lxB := textB_length hfb.1 mB.1
    have HFb := Lib.hid hfb
    have hSz : sizeL La = tot La := if_pos mA
    have HMa := Lib.hid mA; have HMb := Lib.hid mB; have HEA := Lib.hid eA; have HLA := Lib.hid lA; have HEB := Lib.hid eB; have HLB := Lib.hid lB; have HXA := Lib.hid lxA; have HXB := Lib.hid lxB; have HSz := Lib.hid hSz
    clear hb hown hfb mA mB eA lA eB lB lxA lxB hSz
    go_wp2_with fail
    refine (Text_any A2 m2 c2 (some ⟨w1.heap.size, 0, none⟩) 2 2 _ La [x0, x1] HLa.out K3.out.la (by omega) rfl K3.out.src (by omega)).mono ?_
    rintro e w4 ⟨⟨A4, m4, c4, rfl, hown⟩, hb⟩
    rw [HEA.out]
    rw [HLA.out] at hown
    have K4 := Lib.hid (K3.out.up hb)
    have HOx := Lib.hid hown
    have hm4 : (m4 : Int) = tot La := by rw [← HXA.out, hown.1]
    clear hb hown
    go_wp2_with fail
    refine (Text_any A3 m3 c3 (some ⟨w1.heap.size, 0, none⟩) 2 2 _ Lb [x0, x1] HLb.out K4.out.lb (by omega) rfl K4.out.src (by omega)).mono ?_
    rintro e w5 ⟨⟨A5, m5, c5, rfl, hown⟩, hb⟩
    rw [HEB.out]
    rw [HLB.out] at hown
    have K5 := Lib.hid (K4.out.up hb)
    have HOy := Lib.hid hown
    have HX5 := Lib.hid (HOx.out.rd.up hb)
    have hm5 : (m5 : Int) = tot Lb := by rw [← HXB.out, hown.1]
    have hm4' : m4 ≤ 120000 := by omega
    have hm5' : m5 ≤ 120000 := by omega
    have HM4 := Lib.hid hm4; have HM5 := Lib.hid hm5
    clear hb hown hm4 hm5
    go_wp2_with fail
    refine (Size_any A2 m2 c2 _ La HLa.out K5.out.la (by omega)).mono ?_
    rintro e w6 ⟨rfl, hb⟩
    rw [HSz.out, ← HM4.out]
    have K6 := Lib.hid (K5.out.up hb)
    have HX6 := Lib.hid (HX5.out.up hb)
    have HY6 := Lib.hid (HOy.out.rd.up hb)
    clear hb
    go_wp2_with fail
    refine (Pick_any at_ _ _ (by omega) (by omega) a0 a1).mono ?_
    rintro e w7 ⟨rfl, rfl⟩
    have p0 := Int.emod_nonneg at_ (show (m4 : Int) + 1 ≠ 0 by omega)
    have p1 := Int.emod_lt_of_pos at_ (show (0 : Int) < (m4 : Int) + 1 by omega)
    generalize at_ % ((m4 : Int) + 1) = α at *
    go_wp2_with fail
    refine (Pick_any n _ _ (by omega) (by omega) b0 b1).mono ?_
    rintro e w8 ⟨rfl, rfl⟩
    have q0 := Int.emod_nonneg n (show (m4 : Int) - α + 1 ≠ 0 by omega)
    have q1 := Int.emod_lt_of_pos n (show (0 : Int) < (m4 : Int) - α + 1 by omega)
    generalize n % ((m4 : Int) - α + 1) = ν at *
    have hα1 : α ≤ tot La := by have := HM4.out; omega
    have hν1 : ν ≤ tot La - α := by have := HM4.out; omega
    have hSE : spliceE La α ν Lb = 0 := by
      unfold spliceE; rw [if_neg (by simpa using ⟨HMa.out, HMb.out⟩), if_neg (by omega), if_neg (by omega)]
    have hSL : spliceL La α ν Lb = joinL (partL La 0 α ++ (Lb ++ partL La (α + ν) (tot La))) := by unfold spliceL; rw [if_pos hSE]
    have hPE : pieceE La α ν = 0 := by unfold pieceE; rw [if_neg (by simpa using HMa.out), if_neg (by omega)]
    have hPL : pieceL La α ν = joinL (partL La α (α + ν)) := by unfold pieceL; rw [if_pos hPE]
    obtain ⟨sm, _⟩ := undone_may HMa.out HMb.out α ν p0 q0 hα1 hν1 (by omega)
    obtain ⟨sh, st⟩ := splice_text HFa.out.1 HFb.out.1 HMa.out HMb.out α ν p0 q0 hα1 hν1
    obtain ⟨ph, pt⟩ := piece_text HFa.out.1 HMa.out α ν p0 q0
    rw [← hSL] at sm sh st
    rw [← hPL] at ph pt
    have pm : MayP (pieceL La α ν) := by rw [hPL]; exact may_joinL (partL_ok HMa.out.1 _ _) (by have := tot_partL HMa.out.1 α (α + ν) (by omega) (by omega) (by omega); omega)
    obtain ⟨sE, sL⟩ := TextE_ok sh sm
    obtain ⟨pE, pL⟩ := TextE_ok ph pm
    have lsm := len_of_may sm
    have lpm := len_of_may pm
    rw [st] at sL
    rw [pt] at pL
    obtain ⟨α, rfl⟩ := Int.eq_ofNat_of_zero_le p0
    obtain ⟨ν, rfl⟩ := Int.eq_ofNat_of_zero_le q0
    simp only [Int.toNat_natCast] at sL pL
    have HSE := Lib.hid hSE; have HPE := Lib.hid hPE; have HsE := Lib.hid sE; have HsL := Lib.hid sL; have HpE := Lib.hid pE; have HpL := Lib.hid pL
    have hα4 : α ≤ m4 := by omega
    have hν4 : α + ν ≤ m4 := by omega
    clear hSE hSL hPE hPL sm sh st ph pt pm sE sL pE pL p1 q1 hα1 hν1
    go_wp2_with fail
    refine (Splice_any A2 m2 c2 _ _ A3 m3 c3 _ La HLa.out K6.out.la (by omega) (by omega) (by omega) (by omega) (by omega) Lb HLb.out K6.out.lb (by omega)).mono ?_
    rintro e w9 ⟨⟨A9, m9, c9, rfl, hown⟩, hb⟩
    rw [HSE.out]
    have K9 := Lib.hid (K6.out.up hb)
    have HOs := Lib.hid hown
    have HX9 := Lib.hid (HX6.out.up hb)
    have HY9 := Lib.hid (HY6.out.up hb)
    have hm9 : m9 ≤ 9223372036854775807 := by have := hown.cap; unfold maxLen at this; omega
    clear hb hown
    go_wp2_with fail
    refine (Text_any A9 m9 c9 (some ⟨w1.heap.size, 0, none⟩) 2 2 _ (spliceL La α ν Lb) [x0, x1] HOs.out.1 HOs.out.rd hm9 rfl K9.out.src (by omega)).mono ?_
    rintro e w10 ⟨⟨A10, m10, c10, rfl, hown⟩, hb⟩
    rw [HsE.out]
    rw [HsL.out] at hown
    have K10 := Lib.hid (K9.out.up hb)
    have HOz := Lib.hid hown
    have HX10 := Lib.hid (HX9.out.up hb)
    have HY10 := Lib.hid (HY9.out.up hb)
    have hm10 : m10 ≤ 9223372036854775807 := by have := hown.cap; unfold maxLen at this; omega
    have hxc := HOx.out.cap
    have HNx := Lib.hid HOx.out.none
    have HNy := Lib.hid HOy.out.none
    unfold maxLen at hxc
    obtain ⟨hxc1, hxc2⟩ := hxc
    clear hb hown
    have HNx1 : Hid (A4 = none → α = 0 ∧ c4 = 0) := Lib.hid (fun h => by have := HNx.out h; omega)
    have HTl : Hid (((textB [x0, x1] La).take α).length = α) := Lib.hid (by rw [List.length_take, HOx.out.1]; omega)
    have HDl : Hid (((textB [x0, x1] La).drop (α + ν)).length = m4 - (α + ν)) := Lib.hid (by rw [List.length_drop, HOx.out.1])
    have HXt := Lib.hid (HX10.out.takeB α)
    have HXd := Lib.hid (HX10.out.cutFrom (α + ν) c4 (by rw [HOx.out.1]; exact hxc1))
    go_wp2_with (at_builtin; refine wpList_append_any rfl (.tmp 104) (.tmp 107) 34 rfl w10.heap.size 5 i0 _ 1 1 Try.underlying34 hi hz0 hz1 hz2 rfl (by decide) _ _ _ rfl (OwnB.nil w10 w10.heap.size).2 A4 α _ (bcells ((textB [x0, x1] La).take α)) rfl HNx1.out (by rw [bcells, List.length_map, HTl.out, Nat.mul_one]) HXt.out.cells' (bcells_one _) (by unfold maxLen; omega) (by omega) (by simp) ?_)
    intro v' w11 hown' hgrow
    have hown'' : w11.ownsRow w10.heap.size 5 1 v' (0 + α) (bcells [] ++ bcells ((textB [x0, x1] La).take α)) := by rw [Nat.zero_add]; exact hown'
    obtain ⟨⟨A11, c11, hv, hown11⟩, hbb, _, hsz11, _⟩ := appB_step (w := w10) (OwnB.nil w10 w10.heap.size) (Below.refl _ _) (Nat.le_refl _) (Below.refl _ _) HTl.out hown'' hgrow
    rw [Nat.zero_add, List.nil_append] at hown11
    rw [Nat.zero_add] at hv
    have HO11 := Lib.hid hown11
    have HBB := Lib.hid hbb
    rw [hv]
    clear hown' hown'' hgrow hv hown11 hbb
    go_wp2_with (at_builtin; refine wpList_append_any rfl (.tmp 109) (.tmp 110) 34 rfl w10.heap.size 5 i0 _ 1 1 Try.underlying34 hi hz0 hz1 hz2 rfl (by decide) _ _ _ rfl HO11.out.2 A5 m5 c5 (bcells (textB [x0, x1] Lb)) rfl HNy.out (by rw [bcells, List.length_map, HOy.out.1, Nat.mul_one]) (HY10.out.below HBB.out (Nat.le_refl _)).cells' (bcells_one _) (by unfold maxLen; omega) (by omega) hsz11 ?_)
    intro v' w12 hown' hgrow
    obtain ⟨⟨A12, c12, hv, hown12⟩, hbb, _, hsz12, _⟩ := appB_step HO11.out HBB.out hsz11 (Below.refl _ _) HOy.out.1 hown' hgrow
    have hsz12' : w10.heap.size ≤ w12.heap.size := by omega
    have HO12 := Lib.hid hown12
    have HBB12 := Lib.hid hbb
    rw [hv]
    clear hown' hgrow hv hown12 hbb
    have HNx2 : Hid ((if c4 = α + ν then A4 else A4.map (·.add (α + ν))) = none → m4 - (α + ν) = 0 ∧ c4 - (α + ν) = 0) := Lib.hid (fun h => by
      have hn : A4 = none := by
        split at h
        · exact h
        · simpa using h
      have := HNx.out hn
      omega)
    have HXp := Lib.hid ((HX10.out.cutFrom α c4 (by rw [HOx.out.1]; exact hxc1)).takeB ν)
    obtain ⟨Ad, hAd, hAdn, hAdr⟩ : ∃ Ad, (if c4 = α + ν then A4 else A4.map (fun x => x.add (α + ν))) = Ad ∧ Hid (Ad = none → m4 - (α + ν) = 0 ∧ c4 - (α + ν) = 0) ∧ Hid (RdB w10 w10.heap.size Ad ((textB [x0, x1] La).drop (α + ν))) := ⟨_, rfl, HNx2, HXd⟩
    obtain ⟨Ae, hAe, hAer⟩ : ∃ Ae, (if c4 = α then A4 else A4.map (fun x => x.add α)) = Ae ∧ Hid (RdB w10 w10.heap.size Ae (((textB [x0, x1] La).drop α).take ν)) := ⟨_, rfl, HXp⟩
    clear HNx2 HXd HXp
    go_wp2_with (first | rw [hAd] | (at_builtin; refine wpList_append_any rfl (.tmp 112) (.tmp 117) 34 rfl w10.heap.size 5 i0 _ 1 1 Try.underlying34 hi hz0 hz1 hz2 rfl (by decide) _ _ _ rfl HO12.out.2 Ad (m4 - (α + ν)) (c4 - (α + ν)) (bcells ((textB [x0, x1] La).drop (α + ν))) rfl hAdn.out (by rw [bcells, List.length_map, HDl.out, Nat.mul_one]) (hAdr.out.below HBB12.out (Nat.le_refl _)).cells' (bcells_one _) (by unfold maxLen; omega) (by omega) hsz12' ?_))
    intro v' w13 hown' hgrow
    obtain ⟨⟨A13, c13, hv, hown13⟩, hbb, _, hsz13, _⟩ := appB_step HO12.out HBB12.out hsz12' (Below.refl _ _) HDl.out hown' hgrow
    have K13 := Lib.hid (K10.out.up hbb)
    have HO13 := Lib.hid hown13
    have HX13 := Lib.hid (hAer.out.up hbb)
    have HZ13 := Lib.hid (HOz.out.rd.up hbb)
    rw [hv]
    clear hown' hgrow hv hown13 hbb
    go_wp2_with fail
    refine (Piece_any A2 m2 c2 _ _ _ La HLa.out K13.out.la (by omega) (by omega) (by omega) (by omega) (by omega)).mono ?_
    rintro e w14 ⟨⟨A14, m14, c14, rfl, hown⟩, hb⟩
    rw [HPE.out]
    have K14 := Lib.hid (K13.out.up hb)
    have HOp := Lib.hid hown
    have HX14 := Lib.hid (HX13.out.up hb)
    have HZ14 := Lib.hid (HZ13.out.up hb)
    have HV14 := Lib.hid (HO13.out.rd.up hb)
    have hm14 : m14 ≤ 9223372036854775807 := by have := hown.cap; unfold maxLen at this; omega
    clear hb hown
    go_wp2_with fail
    refine (Text_any A14 m14 c14 (some ⟨w1.heap.size, 0, none⟩) 2 2 _ (pieceL La α ν) [x0, x1] HOp.out.1 HOp.out.rd hm14 rfl K14.out.src (by omega)).mono ?_
    rintro e w15 ⟨⟨A15, m15, c15, rfl, hown⟩, hb⟩
    rw [HpE.out]
    rw [HpL.out] at hown
    have K15 := Lib.hid (K14.out.up hb)
    have HOq := Lib.hid hown
    have HX15 := Lib.hid (HX14.out.up hb)
    have HZ15 := Lib.hid (HZ14.out.up hb)
    have HV15 := Lib.hid (HV14.out.up hb)
    have hm15 : m15 ≤ 9223372036854775807 := by have := hown.cap; unfold maxLen at this; omega
    clear hb hown
    go_wp2_with fail
    refine (SameB_true A10 m10 c10 A13 (α + m5 + (m4 - (α + ν))) c13 _ _ HOz.out.1 HZ15.out hm10 (by rw [← HO13.out.1, ← HOz.out.1]) HV15.out).mono ?_
    rintro e w16 ⟨rfl, hb⟩
    have K16 := Lib.hid (K15.out.up hb)
    have HX16 := Lib.hid (HX15.out.up hb)
    have HQ16 := Lib.hid (HOq.out.rd.up hb)
    clear hb
    have HQl : Hid ((((textB [x0, x1] La).drop α).take ν).length = ν) := Lib.hid (by rw [List.length_take, List.length_drop, HOx.out.1]; omega)
    go_wp2_with fail
    refine (SameB_true A15 m15 c15 Ae ν _ _ _ HOq.out.1 HQ16.out hm15 (by rw [← HOq.out.1, HQl.out]) HX16.out).mono ?_
    rintro e w17 ⟨rfl, hb⟩
    have K17 := Lib.hid (K16.out.up hb)
    clear hb
    go_wp2_with fail
    go_ret
    exact ⟨rfl, K17.out.bel⟩
end Go.Proofs.Ytlgablhlpcmcaaa
