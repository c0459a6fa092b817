/-
  That the law ScrapJoined returns true, for every list and all numbers.
-/
import Derived.Test.YtlgablhlpcmcaaaLawb
import Derived.Test.YtlgablhlpcmcaaaApps
namespace Go.Proofs.Ytlgablhlpcmcaaa
open Go.RowKit
set_option maxHeartbeats 1600000 in
set_option maxRecDepth 100000 in
theorem joined_walk (A : Option Addr) (len cap : Nat) (at_ n : Int) (w : World) (l : List S) (hlen : l.length = len) (hr : Rd w w.heap.size A l) (hm : len ≤ 9223372036854775807) (a0 : -9223372036854775808 ≤ at_) (a1 : at_ ≤ 9223372036854775807)
    (n0 : -9223372036854775808 ≤ n) (n1 : n ≤ 9223372036854775807) :
    Calls Try.prog 9 #[.slice A len cap, .int .i64 at_, .int .i64 n] w fun e w' => e = .returned (.bool true) ∧ Below w.heap.size w w' := by
  have H := Lib.hid hlen; have HR := Lib.hid hr
  clear hlen hr
  obtain ⟨i0, hi, hz0, hz1, hz2⟩ := info_parts info31
  by_cases hM : MayP l
  · have e1 := mayB_of hM
    have t0 := tot_nonneg l hM.1
    have t1 := hM.2
    have hJ : JoinL l = joinL l := if_pos hM
    have hS : sizeL l = tot l := if_pos hM
    have jm : MayP (joinL l) := may_joinL hM.1 hM.2
    have hlj := len_of_may jm
    have e2 := mayB_of jm
    have hSj : sizeL (joinL l) = tot l := (if_pos jm : sizeL (joinL l) = tot (joinL l)).trans (tot_joinL l)
    have hJj : JoinL (joinL l) = joinL l := (if_pos jm : JoinL (joinL l) = joinL (joinL l)).trans (joinL_joinL hM.1)
    have hsep := sep_joinL l
    have HM := Lib.hid hM; have HJ := Lib.hid hJ; have HS := Lib.hid hS; have HSj := Lib.hid hSj; have HJj := Lib.hid hJj; have HSep := Lib.hid hsep; have HJM := Lib.hid jm
    clear hM hJ hS hSj hJj hsep jm
    go_enter Try.func9, Try.ntmps9
    go_wp2_with fail
    refine (awake_any _).mono ?_
    rintro e w1 ⟨rfl, hb⟩
    have HB1 := Lib.hid hb
    have HR1 := Lib.hid (HR.out.up hb)
    clear hb
    go_wp2_with fail
    refine (may_any A len cap _ l H.out HR1.out hm).mono ?_
    rintro e w2 ⟨rfl, hb⟩
    have HB2 := Lib.hid (below_up HB1.out hb)
    have HR2 := Lib.hid (HR1.out.up hb)
    clear hb
    go_wp2_with fail
    refine (Size_any A len cap _ l H.out HR2.out hm).mono ?_
    rintro e w3 ⟨rfl, hb⟩
    rw [HS.out]
    have HB3 := Lib.hid (below_up HB2.out hb)
    have HR3 := Lib.hid (HR2.out.up hb)
    clear hb
    go_wp2_with fail
    refine (Join_any A len cap _ l H.out HR3.out hm).mono ?_
    rintro e w4 ⟨⟨Aj, mj, cj, rfl, hown⟩, hb⟩
    rw [HJ.out] at hown
    have hmj : mj ≤ 1099511627776 := by have := hown.1; omega
    have Hj := Lib.hid hown.1
    have HRj4 := Lib.hid hown.rd
    have HB4 := Lib.hid (below_up HB3.out hb)
    have HR4 := Lib.hid (HR3.out.up hb)
    clear hb hown
    go_wp2_with fail
    refine (may_any Aj mj cj _ (joinL l) Hj.out HRj4.out (by omega)).mono ?_
    rintro e w5 ⟨rfl, hb⟩
    have HB5 := Lib.hid (below_up HB4.out hb)
    have HR5 := Lib.hid (HR4.out.up hb)
    have HRj5 := Lib.hid (HRj4.out.up hb)
    clear hb
    go_wp2_with fail
    refine (Size_any Aj mj cj _ (joinL l) Hj.out HRj5.out (by omega)).mono ?_
    rintro e w6 ⟨rfl, hb⟩
    rw [HSj.out]
    have HB6 := Lib.hid (below_up HB5.out hb)
    have HR6 := Lib.hid (HR5.out.up hb)
    have HRj6 := Lib.hid (HRj5.out.up hb)
    clear hb
    go_wp2_with fail
    refine (Join_any Aj mj cj _ (joinL l) Hj.out HRj6.out (by omega)).mono ?_
    rintro e w7 ⟨⟨A7, m7, c7, rfl, hown⟩, hb⟩
    rw [HJj.out] at hown
    have hm7 : mj = m7 := by rw [← Hj.out, ← hown.1]
    have HM7 := Lib.hid hm7
    have HO7 := Lib.hid hown
    have HB7 := Lib.hid (below_up HB6.out hb)
    have HR7 := Lib.hid (HR6.out.up hb)
    have HRj7 := Lib.hid (HRj6.out.up hb)
    clear hb hown hm7
    go_wp2_with fail
    refine (Same_true A7 m7 c7 Aj mj cj _ (joinL l) HO7.out.1 HO7.out.rd (by have := HM7.out; omega) HM7.out HRj7.out).mono ?_
    rintro e w8 ⟨rfl, hb⟩
    have HB8 := Lib.hid (below_up HB7.out hb)
    have HR8 := Lib.hid (HR7.out.up hb)
    have HRj8 := Lib.hid (HRj7.out.up hb)
    clear hb
    go_wp2_with fail
    go_loopw [9] (fun i wr => ∃ k : Nat, (k = 0 ∨ k + 1 ≤ mj) ∧ i = .int .i64 ((k : Int) + 1) ∧ Below w8.heap.size w8 wr) (fun i _ => mj - (intOf i).toNat)
    case atStart => exact ⟨0, .inl rfl, rfl, Below.refl _ _⟩
    case round =>
      obtain ⟨k, hk, rfl, hb⟩ := hrel
      have hk' : k ≤ 1099511627776 := by omega
      by_cases hlt : k + 1 < mj
      · obtain ⟨s, hs⟩ := get_some (joinL l) k (by have := Hj.out; omega)
        obtain ⟨t, ht⟩ := get_some (joinL l) (k+1) (by have := Hj.out; omega)
        have hst := HSep.out k s t hs ht
        obtain ⟨o1, o2, o3, o4, o5⟩ := HJM.out.1.at_ hs
        obtain ⟨p1, p2, p3, p4, p5⟩ := HJM.out.1.at_ ht
        have hrj := HRj8.out.below hb (Nat.le_refl _)
        obtain ⟨b, off, rfl, hb', s0, s1, s2⟩ := hrj k s hs
        obtain ⟨b2, off2, e2, _, r0, r1, r2⟩ := hrj (k+1) t ht
        cases e2
        have ea : off + (k + 1) * 3 = off + k * 3 + 3 := by omega
        have HBel := Lib.hid hb
        clear hs ht hrj hk hb
        by_cases hc : t.src = s.src
        · have f1 : (t.src == s.src) = true := by simpa using hc
          have f2 : (t.at_ - s.at_ == s.len) = false := by
            have : ¬ (t.at_ - s.at_ = s.len) := fun h => hst ⟨hc.symm, by omega⟩
            simpa using this
          have W1 : IntKind.i64.wrap (t.at_ - s.at_) = t.at_ - s.at_ := IntWalk.i64_in _ (by omega)
          clear hc hst ea
          go_wp2_with fail
          go_quiet (fail)
          go_wp2_with fail
          go_roundw
          case rel => exact ⟨k+1, .inr (by omega), by go_num, belowDrewN HBel.out _⟩
          case measure => simp [intOf]; omega
        · have f1 : (t.src == s.src) = false := by simpa using hc
          clear hc hst ea
          go_wp2_with fail
          go_quiet (fail)
          go_wp2_with fail
          go_roundw
          case rel => exact ⟨k+1, .inr (by omega), by go_num, belowDrewN HBel.out _⟩
          case measure => simp [intOf]; omega
      · have hge : mj ≤ k + 1 := by omega
        have HBel := Lib.hid (below_up HB8.out hb)
        have HR9 := Lib.hid (HR8.out.up hb)
        have HRj9 := Lib.hid (HRj8.out.up hb)
        clear hlt hb hk
        by_cases hc : at_ < 0 ∨ n < 0 ∨ tot l < at_ ∨ tot l - at_ < n
        · go_wp2_with fail
          all_goals
            go_ret
            exact ⟨rfl, HBel.out⟩
        · have x0 : 0 ≤ at_ := by omega
          have x1 : 0 ≤ n := by omega
          have x2 : at_ ≤ tot l := by omega
          have x3 : n ≤ tot l - at_ := by omega
          have hCE : cutE l at_ = 0 := by unfold cutE; rw [if_neg (by simpa using HM.out), if_neg (by omega)]
          have hCA : cutA l at_ = joinL (partL l 0 at_) := by unfold cutA; rw [if_pos hCE]
          have hCB : cutB l at_ = joinL (partL l at_ (tot l)) := by unfold cutB; rw [if_pos hCE]
          have hPE : pieceE l at_ n = 0 := by unfold pieceE; rw [if_neg (by simpa using HM.out), if_neg hc]
          have hPL : pieceL l at_ n = joinL (partL l at_ (at_ + n)) := by unfold pieceL; rw [if_pos hPE]
          have tA : tot (cutA l at_) = at_ := by rw [hCA, tot_joinL, tot_partL HM.out.1 0 at_ (by omega) (by omega) x2]; omega
          have tB : tot (cutB l at_) = tot l - at_ := by rw [hCB, tot_joinL, tot_partL HM.out.1 at_ (tot l) (by omega) (by omega) (by omega)]
          have tP : tot (pieceL l at_ n) = n := by rw [hPL, tot_joinL, tot_partL HM.out.1 at_ (at_ + n) (by omega) (by omega) (by omega)]; omega
          have mA : MayP (cutA l at_) := ⟨by rw [hCA]; exact joinL_ok (partL_ok HM.out.1 _ _), by omega⟩
          have mB : MayP (cutB l at_) := ⟨by rw [hCB]; exact joinL_ok (partL_ok HM.out.1 _ _), by omega⟩
          have mP : MayP (pieceL l at_ n) := ⟨by rw [hPL]; exact joinL_ok (partL_ok HM.out.1 _ _), by omega⟩
          have hSE : spliceE l at_ n (pieceL l at_ n) = 0 := by
            unfold spliceE; rw [if_neg (by simpa using ⟨HM.out, mP⟩), if_neg hc, if_neg (by omega)]
          have hSL : spliceL l at_ n (pieceL l at_ n) = joinL l := by
            unfold spliceL; rw [if_pos hSE, hPL]; exact joined_splice HM.out at_ n x0 x1 x2 x3
          have hSA : sizeL (cutA l at_) = at_ := (if_pos mA : sizeL (cutA l at_) = tot (cutA l at_)).trans tA
          have hSP : sizeL (pieceL l at_ n) = n := (if_pos mP : sizeL (pieceL l at_ n) = tot (pieceL l at_ n)).trans tP
          have hcut := joined_cut HM.out at_ x0 x2
          rw [← hCA, ← hCB] at hcut
          have hJC : JoinL (cutA l at_ ++ cutB l at_) = joinL l := (if_pos hcut.1 : JoinL (cutA l at_ ++ cutB l at_) = joinL (cutA l at_ ++ cutB l at_)).trans hcut.2
          have lA := len_of_may mA; have lB := len_of_may mB; have lP := len_of_may mP
          have HCE := Lib.hid hCE; have HPE := Lib.hid hPE; have HSE := Lib.hid hSE; have HSL := Lib.hid hSL; have HSA := Lib.hid hSA; have HSP := Lib.hid hSP; have HJC := Lib.hid hJC
          clear hCE hCA hCB hPE hPL tA tB tP mA mB mP hSE hSL hSA hSP hcut hJC hc
          go_wp2_with fail
          refine (Cut_any A len cap at_ _ l H.out HR9.out hm a0 a1).mono ?_
          rintro e w10 ⟨⟨A1, m1, c1, A2, m2, c2, rfl, hown, hown2⟩, hb⟩
          rw [HCE.out]
          have HOa := Lib.hid hown
          have hm1 : m1 ≤ 1099511627776 := by have := hown.1; omega
          have hm2 : m2 ≤ 1099511627776 := by have := hown2.1; omega
          have HOb := Lib.hid hown2
          have HB10 := Lib.hid (below_up HBel.out hb)
          have HR10 := Lib.hid (HR9.out.up hb)
          have HRj10 := Lib.hid (HRj9.out.up hb)
          clear hb hown hown2
          go_wp2_with fail
          refine (Piece_any A len cap at_ n _ l H.out HR10.out hm a0 a1 n0 n1).mono ?_
          rintro e w11 ⟨⟨A3, m3, c3, rfl, hown⟩, hb⟩
          rw [HPE.out]
          have hm3 : m3 ≤ 1099511627776 := by have := hown.1; omega
          have HOp := Lib.hid hown
          have HRa11 := Lib.hid (HOa.out.rd.up hb)
          have HRb11 := Lib.hid (HOb.out.rd.up hb)
          have HB11 := Lib.hid (below_up HB10.out hb)
          have HR11 := Lib.hid (HR10.out.up hb)
          have HRj11 := Lib.hid (HRj10.out.up hb)
          clear hb hown
          go_wp2_with fail
          refine (Splice_any A len cap at_ n A3 m3 c3 _ l H.out HR11.out hm a0 a1 n0 n1 (pieceL l at_ n) HOp.out.1 HOp.out.rd (by omega)).mono ?_
          rintro e w12 ⟨⟨A4, m4, c4, rfl, hown⟩, hb⟩
          rw [HSE.out]
          rw [HSL.out] at hown
          have hm4 : mj = m4 := by rw [← Hj.out, ← hown.1]
          have HM4 := Lib.hid hm4
          have HRp12 := Lib.hid (HOp.out.rd.up hb)
          have HRq12 := Lib.hid hown.rd
          have HRql := Lib.hid hown.1
          have HRa12 := Lib.hid (HRa11.out.up hb)
          have HRb12 := Lib.hid (HRb11.out.up hb)
          have HB12 := Lib.hid (below_up HB11.out hb)
          have HRj12 := Lib.hid (HRj11.out.up hb)
          have HOn := Lib.hid HOa.out.none
          have HOm := Lib.hid HOb.out.none
          clear hb hown hm4
          go_wp2_with (at_builtin; refine wpList_append_any rfl (.tmp 125) (.tmp 126) 22 rfl w12.heap.size 31 i0 _ 3 24 Try.underlying22 hi hz0 hz1 hz2 rfl (by decide) _ _ _ rfl (Own.empty w12 w12.heap.size w12.heap.size (Nat.le_refl _) rfl).2 A1 m1 c1 (cells (cutA l at_)) rfl HOn.out (by rw [cells_len, HOa.out.1]) (HRa12.out.alloc (Nat.le_refl _) _).cells (cells_one_cell _) (by unfold maxLen; omega) (by omega) (by simp) ?_)
          intro v' w13 hown' hgrow
          have hown'' : w13.ownsRow w12.heap.size 31 3 v' (0 + m1) (cells [] ++ cells (cutA l at_)) := by rw [Nat.zero_add]; exact hown'
          obtain ⟨⟨A5, c5, hv, hown5⟩, hbb, _, hsz5, _⟩ := appL_step (w := w12) (Own.empty w12 w12.heap.size w12.heap.size (Nat.le_refl _) rfl) ((Below.refl _ _).alloc (Nat.le_refl _) _) (by simp) (Below.refl _ _) HOa.out.1 hown'' hgrow
          rw [Nat.zero_add, List.nil_append] at hown5
          rw [Nat.zero_add] at hv
          have HO5 := Lib.hid hown5
          have HBB := Lib.hid hbb
          have hz5 : w12.heap.size ≤ w13.heap.size := by simp at hsz5; omega
          rw [hv]
          clear hown' hown'' hgrow hv hown5 hbb hsz5
          go_wp2_with (at_builtin; refine wpList_append_any rfl (.tmp 127) (.tmp 128) 22 rfl w12.heap.size 31 i0 _ 3 24 Try.underlying22 hi hz0 hz1 hz2 rfl (by decide) _ _ _ rfl HO5.out.2 A2 m2 c2 (cells (cutB l at_)) rfl HOm.out (by rw [cells_len, HOb.out.1]) (HRb12.out.below HBB.out (Nat.le_refl _)).cells (cells_one_cell _) (by unfold maxLen; omega) (by omega) hz5 ?_)
          intro v' w14 hown' hgrow
          obtain ⟨⟨A6, c6, hv, hown6⟩, hbb, _, hsz6, _⟩ := appL_step HO5.out HBB.out hz5 (Below.refl _ _) HOb.out.1 hown' hgrow
          have HO6 := Lib.hid hown6
          have HB14 := Lib.hid (below_up HB12.out hbb)
          have HRa14 := Lib.hid (HRa12.out.up hbb)
          have HRp14 := Lib.hid (HRp12.out.up hbb)
          have HRq14 := Lib.hid (HRq12.out.up hbb)
          have HRj14 := Lib.hid (HRj12.out.up hbb)
          rw [hv]
          clear hown' hgrow hv hown6 hbb hsz6
          go_wp2_with fail
          refine (Size_any A1 m1 c1 _ (cutA l at_) HOa.out.1 HRa14.out (by omega)).mono ?_
          rintro e w15 ⟨rfl, hb⟩
          rw [HSA.out]
          have HB15 := Lib.hid (below_up HB14.out hb)
          have HRc15 := Lib.hid (HO6.out.rd.up hb)
          have HRp15 := Lib.hid (HRp14.out.up hb)
          have HRq15 := Lib.hid (HRq14.out.up hb)
          have HRj15 := Lib.hid (HRj14.out.up hb)
          clear hb
          go_wp2_with fail
          refine (Size_any A3 m3 c3 _ (pieceL l at_ n) HOp.out.1 HRp15.out (by omega)).mono ?_
          rintro e w16 ⟨rfl, hb⟩
          rw [HSP.out]
          have HB16 := Lib.hid (below_up HB15.out hb)
          have HRc16 := Lib.hid (HRc15.out.up hb)
          have HRq16 := Lib.hid (HRq15.out.up hb)
          have HRj16 := Lib.hid (HRj15.out.up hb)
          clear hb
          go_wp2_with fail
          refine (Join_any A6 (m1 + m2) c6 _ (cutA l at_ ++ cutB l at_) HO6.out.1 HRc16.out (by omega)).mono ?_
          rintro e w17 ⟨⟨A7', m7', c7', rfl, hown⟩, hb⟩
          rw [HJC.out] at hown
          have hm7' : mj = m7' := by rw [← Hj.out, ← hown.1]
          have HM7' := Lib.hid hm7'
          have HO17 := Lib.hid hown
          have HB17 := Lib.hid (below_up HB16.out hb)
          have HRq17 := Lib.hid (HRq16.out.up hb)
          have HRj17 := Lib.hid (HRj16.out.up hb)
          clear hb hown hm7'
          go_wp2_with fail
          refine (Same_true A7' m7' c7' Aj mj cj _ (joinL l) HO17.out.1 HO17.out.rd (by have := HM7'.out; omega) HM7'.out HRj17.out).mono ?_
          rintro e w18 ⟨rfl, hb⟩
          have HB18 := Lib.hid (below_up HB17.out hb)
          have HRq18 := Lib.hid (HRq17.out.up hb)
          have HRj18 := Lib.hid (HRj17.out.up hb)
          clear hb
          go_wp2_with fail
          refine (Same_true A4 m4 c4 Aj mj cj _ (joinL l) HRql.out HRq18.out (by have := HM4.out; omega) HM4.out HRj18.out).mono ?_
          rintro e w19 ⟨rfl, hb⟩
          have HB19 := Lib.hid (below_up HB18.out hb)
          clear hb
          go_wp2_with fail
          go_ret
          exact ⟨rfl, HB19.out⟩
  · have e1 := mayB_not hM
    clear hM
    go_enter Try.func9, Try.ntmps9
    go_wp2_with fail
    refine (awake_any _).mono ?_
    rintro e w1 ⟨rfl, hb⟩
    have HB1 := Lib.hid hb
    have HR1 := Lib.hid (HR.out.up hb)
    clear hb
    go_wp2_with fail
    refine (may_any A len cap _ l H.out HR1.out hm).mono ?_
    rintro e w2 ⟨rfl, hb⟩
    have HB2 := Lib.hid (below_up HB1.out hb)
    clear hb
    go_wp2_with fail
    refine (awake_any _).mono ?_
    rintro e w3 ⟨rfl, hb⟩
    have HB3 := Lib.hid (below_up HB2.out hb)
    clear hb
    go_wp2_with fail
    go_ret
    exact ⟨rfl, HB3.out⟩
end Go.Proofs.Ytlgablhlpcmcaaa
