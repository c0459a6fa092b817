/-
  That the law ScrapParts returns true, for every list and all numbers (the list of at most 5 times 2^40 scraps).
-/
import Derived.Test.YtlgablhlpcmcaaaLawd
namespace Go.Proofs.Ytlgablhlpcmcaaa
open Go.RowKit
/-- What is kept of what was handed in, from call to call. -/
structure Kp (w0 w : World) (A : Option Addr) (l : List S) (G : Option Addr) (l2 : List S) : Prop where
  b : Below w0.heap.size w0 w
  r : Rd w w.heap.size A l
  g : Rd w w.heap.size G l2
theorem Kp.up {w0 w w' : World} {A : Option Addr} {l : List S} {G : Option Addr} {l2 : List S} (h : Kp w0 w A l G l2) (hb : Below w.heap.size w w') : Kp w0 w' A l G l2 := ⟨below_up h.b hb, h.r.up hb, h.g.up hb⟩
theorem pieceE_bd (l : List S) (at_ n : Int) : 0 ≤ pieceE l at_ n ∧ pieceE l at_ n ≤ 2 := by
  unfold pieceE; repeat' split
  all_goals decide
set_option maxHeartbeats 1600000 in
set_option maxRecDepth 100000 in
theorem parts_walk (A : Option Addr) (len cap : Nat) (at_ n : Int) (w : World) (l : List S) (hlen : l.length = len) (hr : Rd w w.heap.size A l) (hnone : A = none → len = 0 ∧ cap = 0) (hm : (len + 2) * 24 ≤ 140737488355328) (a0 : -9223372036854775808 ≤ at_) (a1 : at_ ≤ 9223372036854775807)
    (n0 : -9223372036854775808 ≤ n) (n1 : n ≤ 9223372036854775807) :
    Calls Try.prog 6 #[.slice A len cap, .int .i64 at_, .int .i64 n] w fun e w' => e = .returned (.bool true) ∧ Below w.heap.size w w' := by
  have H := Lib.hid hlen; have HR := Lib.hid hr; have HN := Lib.hid hnone
  clear hlen hr hnone
  go_enter Try.func6, Try.ntmps6
  go_wp2_with fail
  refine (Lent_any A len cap _ l H.out HR.out HN.out hm).mono ?_
  rintro e w1 ⟨⟨ga, ca, rfl, hown⟩, hb⟩
  have hca := hown.cap
  have K1 := Lib.hid (⟨hb, HR.out.up hb, hown.rd⟩ : Kp w w1 A l (some ⟨ga, 0, none⟩) (l ++ mk2))
  unfold maxLen at hca
  obtain ⟨hca1, hca2⟩ := hca
  clear hb hown
  go_wp2_with fail
  refine (Piece_any _ len ca at_ n _ l H.out K1.out.g.left (by omega) a0 a1 n0 n1).mono ?_
  rintro e w2 ⟨⟨A2, m2, c2, rfl, hown⟩, hb⟩
  obtain ⟨E0, E1⟩ := pieceE_bd l at_ n
  generalize hE : pieceE l at_ n = E at *
  have HE := Lib.hid hE
  clear hE
  have K2 := Lib.hid (K1.out.up hb)
  have HO2 := Lib.hid hown
  clear hb hown
  go_wp2_with fail
  refine (refPiece_any A len cap at_ n _ l H.out K2.out.r (by omega) a0 a1 n0 n1).mono ?_
  rintro e w3 ⟨⟨A3, m3, c3, rfl, hown⟩, hb⟩
  rw [HE.out]
  have K3 := Lib.hid (K2.out.up hb)
  have HM3 := Lib.hid (hown.1.symm.trans HO2.out.1)
  have HO3 := Lib.hid hown
  have HP3 := Lib.hid (HO2.out.rd.up hb)
  have hm2 : m2 ≤ 9223372036854775807 := by have := HO2.out.cap; unfold maxLen at this; omega
  clear hb hown
  go_wp2_with fail
  refine (awake_any _).mono ?_
  rintro e w4 ⟨rfl, hb⟩
  have K4 := Lib.hid (K3.out.up hb)
  have HP4 := Lib.hid (HP3.out.up hb)
  have HQ4 := Lib.hid (HO3.out.rd.up hb)
  clear hb
  go_wp2_with fail
  refine (Same_true A2 m2 c2 A3 m3 c3 _ (pieceL l at_ n) HO2.out.1 HP4.out hm2 HM3.out HQ4.out).mono ?_
  rintro e w5 ⟨rfl, hb⟩
  have K5 := Lib.hid (K4.out.up hb)
  clear hb
  go_wp2_with fail
  refine (Cut_any _ len ca at_ _ l H.out K5.out.g.left (by omega) a0 a1).mono ?_
  rintro e w6 ⟨⟨A6, m6, c6, A7, m7, c7, rfl, hown, hown2⟩, hb⟩
  have K6 := Lib.hid (K5.out.up hb)
  have HO6 := Lib.hid hown
  have HO7 := Lib.hid hown2
  have hm6 : m6 ≤ 9223372036854775807 := by have := hown.cap; unfold maxLen at this; omega
  have hm7 : m7 ≤ 9223372036854775807 := by have := hown2.cap; unfold maxLen at this; omega
  clear hb hown hown2
  by_cases hM : MayP l
  · have e1 := mayB_of hM
    have t0 := tot_nonneg l hM.1
    have t1 := hM.2
    have HM := Lib.hid hM
    by_cases hc : at_ < 0 ∨ tot l < at_
    · have hCE : cutE l at_ = 2 := by unfold cutE; rw [if_neg (by simpa using hM), if_pos hc]
      have hA : m6 = 0 := by have := HO6.out.1; unfold cutA at this; rw [if_neg (by rw [hCE]; decide)] at this; exact this.symm
      have hB : m7 = 0 := by have := HO7.out.1; unfold cutB at this; rw [if_neg (by rw [hCE]; decide)] at this; exact this.symm
      rw [hCE]
      subst hA; subst hB
      clear hM hCE
      by_cases hneg : at_ < 0
      · go_wp2_with fail
        refine (refMay_any A len cap _ l H.out K6.out.r (by omega)).mono ?_
        rintro e w7 ⟨rfl, hb⟩
        have K7 := Lib.hid (K6.out.up hb)
        clear hb
        go_wp2_with fail
        refine (Kept_any _ len ca A cap _ l H.out K7.out.g (by omega) (by omega) K7.out.r).mono ?_
        rintro e w8 ⟨rfl, hb⟩
        have K8 := Lib.hid (K7.out.up hb)
        clear hb
        go_wp2_with fail
        go_ret
        exact ⟨rfl, K8.out.b⟩
      · have hgt : tot l < at_ := by omega
        clear hc
        go_wp2_with fail
        refine (refMay_any A len cap _ l H.out K6.out.r (by omega)).mono ?_
        rintro e w7 ⟨rfl, hb⟩
        have K7 := Lib.hid (K6.out.up hb)
        clear hb
        go_wp2_with fail
        refine (refSize_any A len cap _ l H.out K7.out.r HM.out.1 HM.out.2).mono ?_
        rintro e w7' ⟨rfl, hb⟩
        have K7' := Lib.hid (K7.out.up hb)
        clear hb
        go_wp2_with fail
        refine (Kept_any _ len ca A cap _ l H.out K7'.out.g (by omega) (by omega) K7'.out.r).mono ?_
        rintro e w8 ⟨rfl, hb⟩
        have K8 := Lib.hid (K7'.out.up hb)
        clear hb
        go_wp2_with fail
        go_ret
        exact ⟨rfl, K8.out.b⟩
    · have x0 : 0 ≤ at_ := by omega
      have x2 : at_ ≤ tot l := by omega
      have hCE : cutE l at_ = 0 := by unfold cutE; rw [if_neg (by simpa using hM), if_neg hc]
      have hrc := ref_cut hM at_ x0 x2
      have hA : joinL (firstA l at_) = cutA l at_ := by unfold cutA; rw [if_pos hCE]; exact hrc.1
      have hB : joinL (firstB l at_) = cutB l at_ := by unfold cutB; rw [if_pos hCE]; exact hrc.2
      have fao := firstA_ok hM.1 at_
      have fbo := firstB_ok hM.1 at_ x0
      have fat := firstA_tot hM.1 at_ x0 x2
      have fbt := firstB_tot hM.1 at_ x0 x2
      rw [hCE]
      have HA := Lib.hid hA; have HB := Lib.hid hB; have FAO := Lib.hid fao; have FBO := Lib.hid fbo; have FAT := Lib.hid fat; have FBT := Lib.hid fbt
      clear hM hCE hc hrc hA hB fao fbo fat fbt
      go_wp2_with fail
      refine (refMay_any A len cap _ l H.out K6.out.r (by omega)).mono ?_
      rintro e w7 ⟨rfl, hb⟩
      have K7 := Lib.hid (K6.out.up hb)
      have HX7 := Lib.hid (HO6.out.rd.up hb)
      have HY7 := Lib.hid (HO7.out.rd.up hb)
      clear hb
      go_wp2_with fail
      refine (refSize_any A len cap _ l H.out K7.out.r HM.out.1 HM.out.2).mono ?_
      rintro e w8 ⟨rfl, hb⟩
      have K8 := Lib.hid (K7.out.up hb)
      have HX8 := Lib.hid (HX7.out.up hb)
      have HY8 := Lib.hid (HY7.out.up hb)
      clear hb
      go_wp2_with fail
      refine (First_any A len cap _ _ l H.out K8.out.r HM.out.1 HM.out.2 (by omega) (by omega)).mono ?_
      rintro e w9 ⟨⟨A9, m9, c9, A10, m10, c10, rfl, hown, hown2⟩, hb⟩
      have K9 := Lib.hid (K8.out.up hb)
      have HX9 := Lib.hid (HX8.out.up hb)
      have HY9 := Lib.hid (HY8.out.up hb)
      have HOa := Lib.hid hown
      have HOb := Lib.hid hown2
      clear hb hown hown2
      go_wp2_with fail
      refine (refJoin_any A9 m9 c9 _ (firstA l at_) HOa.out.1 HOa.out.rd FAO.out (by have := FAT.out; omega)).mono ?_
      rintro e w10 ⟨⟨A11, m11, c11, rfl, hown⟩, hb⟩
      rw [HA.out] at hown
      have K10 := Lib.hid (K9.out.up hb)
      have HX10 := Lib.hid (HX9.out.up hb)
      have HY10 := Lib.hid (HY9.out.up hb)
      have HOb10 := Lib.hid (HOb.out.rd.up hb)
      have HM11 := Lib.hid (hown.1.symm.trans HO6.out.1)
      have HO11 := Lib.hid hown
      clear hb hown
      go_wp2_with fail
      refine (Same_true A6 m6 c6 A11 m11 c11 _ (cutA l at_) HO6.out.1 HX10.out hm6 HM11.out HO11.out.rd).mono ?_
      rintro e w11 ⟨rfl, hb⟩
      have K11 := Lib.hid (K10.out.up hb)
      have HY11 := Lib.hid (HY10.out.up hb)
      have HOb11 := Lib.hid (HOb10.out.up hb)
      clear hb
      go_wp2_with fail
      refine (refJoin_any A10 m10 c10 _ (firstB l at_) HOb.out.1 HOb11.out FBO.out (by have := FBT.out; omega)).mono ?_
      rintro e w12 ⟨⟨A12, m12, c12, rfl, hown⟩, hb⟩
      rw [HB.out] at hown
      have K12 := Lib.hid (K11.out.up hb)
      have HY12 := Lib.hid (HY11.out.up hb)
      have HM12 := Lib.hid (hown.1.symm.trans HO7.out.1)
      have HO12 := Lib.hid hown
      clear hb hown
      go_wp2_with fail
      refine (Same_true A7 m7 c7 A12 m12 c12 _ (cutB l at_) HO7.out.1 HY12.out hm7 HM12.out HO12.out.rd).mono ?_
      rintro e w13 ⟨rfl, hb⟩
      have K13 := Lib.hid (K12.out.up hb)
      clear hb
      go_wp2_with fail
      refine (Kept_any _ len ca A cap _ l H.out K13.out.g (by omega) (by omega) K13.out.r).mono ?_
      rintro e w14 ⟨rfl, hb⟩
      have K14 := Lib.hid (K13.out.up hb)
      clear hb
      go_wp2_with fail
      go_ret
      exact ⟨rfl, K14.out.b⟩
  · have e1 := mayB_not hM
    have hCE : cutE l at_ = 1 := by unfold cutE; rw [if_pos hM]
    have hA : m6 = 0 := by have := HO6.out.1; unfold cutA at this; rw [if_neg (by rw [hCE]; decide)] at this; exact this.symm
    have hB : m7 = 0 := by have := HO7.out.1; unfold cutB at this; rw [if_neg (by rw [hCE]; decide)] at this; exact this.symm
    rw [hCE]
    subst hA; subst hB
    clear hM hCE
    go_wp2_with fail
    refine (refMay_any A len cap _ l H.out K6.out.r (by omega)).mono ?_
    rintro e w7 ⟨rfl, hb⟩
    have K7 := Lib.hid (K6.out.up hb)
    clear hb
    go_wp2_with fail
    refine (Kept_any _ len ca A cap _ l H.out K7.out.g (by omega) (by omega) K7.out.r).mono ?_
    rintro e w8 ⟨rfl, hb⟩
    have K8 := Lib.hid (K7.out.up hb)
    clear hb
    go_wp2_with fail
    go_ret
    exact ⟨rfl, K8.out.b⟩
end Go.Proofs.Ytlgablhlpcmcaaa
