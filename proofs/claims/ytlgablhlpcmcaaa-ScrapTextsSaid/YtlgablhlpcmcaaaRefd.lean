/-
  What the reference's Splice, Piece and Text answer: what the program's do, for every list and all numbers.
-/
import Derived.Test.YtlgablhlpcmcaaaRefc
import Derived.Test.YtlgablhlpcmcaaaWalkh
namespace Go.Proofs.Ytlgablhlpcmcaaa
open Go.RowKit
set_option maxHeartbeats 400000 in
theorem refSplice_any (A : Option Addr) (len cap : Nat) (at_ n : Int) (Ap : Option Addr) (lenp capp : Nat) (w : World) (l : List S) (hlen : l.length = len) (hr : Rd w w.heap.size A l) (hm : len ≤ 9223372036854775807) (a0 : -9223372036854775808 ≤ at_) (a1 : at_ ≤ 9223372036854775807)
    (n0 : -9223372036854775808 ≤ n) (n1 : n ≤ 9223372036854775807) (put : List S) (hlenp : put.length = lenp) (hrp : Rd w w.heap.size Ap put) (hnp : Ap = none → lenp = 0 ∧ capp = 0) (hmp : lenp ≤ 9223372036854775807) :
    Calls Try.prog 12 #[.slice A len cap, .int .i64 at_, .int .i64 n, .slice Ap lenp capp] w fun e w' => (∃ A' m c, e = .returned (.tuple #[.slice A' m c, .int .i64 (spliceE l at_ n put)]) ∧ Own w' w.heap.size A' m c (spliceL l at_ n put)) ∧ Below w.heap.size w w' := by
  have H := Lib.hid hlen; have HR := Lib.hid hr
  have H' := Lib.hid hlenp; have HRp := Lib.hid hrp; have HNp := Lib.hid hnp
  clear hlen hr hlenp hrp hnp
  obtain ⟨i0, hi, hz0, hz1, hz2⟩ := info_parts info31
  by_cases hM : MayP l
  · have e1 := mayB_of hM
    have t0 := tot_nonneg l hM.1
    have t1 := hM.2
    have HM := Lib.hid hM
    clear hM
    by_cases hMp : MayP put
    · have e2 := mayB_of hMp
      have u0 := tot_nonneg put hMp.1
      have u1 := hMp.2
      have HMp := Lib.hid hMp
      clear hMp
      by_cases hc : at_ < 0 ∨ n < 0 ∨ tot l < at_ ∨ tot l - at_ < n
      · have hE : spliceE l at_ n put = 2 := by unfold spliceE; rw [if_neg (by simpa using ⟨HM.out, HMp.out⟩), if_pos hc]
        have hP : spliceL l at_ n put = [] := by unfold spliceL; rw [if_neg (by rw [hE]; decide)]
        have HE := Lib.hid hE; have HP := Lib.hid hP
        clear hE hP
        go_enter Try.func12, Try.ntmps12
        go_wp2_with fail
        refine (refMay_any A len cap _ l H.out HR.out hm).mono ?_
        rintro e w1 ⟨rfl, hb⟩
        have HB := Lib.hid hb
        have HR1 := Lib.hid (HR.out.up hb)
        have HRp1 := Lib.hid (HRp.out.up hb)
        clear hb
        go_wp2_with fail
        refine (refMay_any Ap lenp capp _ put H'.out HRp1.out hmp).mono ?_
        rintro e w2 ⟨rfl, hb2⟩
        have HB2 := Lib.hid (below_up HB.out hb2)
        have HR2 := Lib.hid (HR1.out.up hb2)
        have HRp2 := Lib.hid (HRp1.out.up hb2)
        clear hb2
        go_wp2_with fail
        refine (refSize_any A len cap _ l H.out HR2.out HM.out.1 HM.out.2).mono ?_
        rintro e w3 ⟨rfl, hb3⟩
        have HB3 := Lib.hid (below_up HB2.out hb3)
        have HR3 := Lib.hid (HR2.out.up hb3)
        have HRp3 := Lib.hid (HRp2.out.up hb3)
        clear hb3
        go_wp2_with fail
        all_goals
          go_ret2
          rw [HE.out, HP.out]
          exact ⟨⟨_, _, _, rfl, Own.nil _ _⟩, HB3.out⟩
      · have x0 : 0 ≤ at_ := by omega
        have x1 : 0 ≤ n := by omega
        have x2 : at_ ≤ tot l := by omega
        have x3 : n ≤ tot l - at_ := by omega
        by_cases hbig : 1099511627776 < tot l - n + tot put
        · have hE : spliceE l at_ n put = 10 := by unfold spliceE; rw [if_neg (by simpa using ⟨HM.out, HMp.out⟩), if_neg hc, if_pos hbig]
          have hP : spliceL l at_ n put = [] := by unfold spliceL; rw [if_neg (by rw [hE]; decide)]
          have HE := Lib.hid hE; have HP := Lib.hid hP
          clear hE hP hc
          go_enter Try.func12, Try.ntmps12
          go_wp2_with fail
          refine (refMay_any A len cap _ l H.out HR.out hm).mono ?_
          rintro e w1 ⟨rfl, hb⟩
          have HB := Lib.hid hb
          have HR1 := Lib.hid (HR.out.up hb)
          have HRp1 := Lib.hid (HRp.out.up hb)
          clear hb
          go_wp2_with fail
          refine (refMay_any Ap lenp capp _ put H'.out HRp1.out hmp).mono ?_
          rintro e w2 ⟨rfl, hb2⟩
          have HB2 := Lib.hid (below_up HB.out hb2)
          have HR2 := Lib.hid (HR1.out.up hb2)
          have HRp2 := Lib.hid (HRp1.out.up hb2)
          clear hb2
          go_wp2_with fail
          refine (refSize_any A len cap _ l H.out HR2.out HM.out.1 HM.out.2).mono ?_
          rintro e w3 ⟨rfl, hb3⟩
          have HB3 := Lib.hid (below_up HB2.out hb3)
          have HR3 := Lib.hid (HR2.out.up hb3)
          have HRp3 := Lib.hid (HRp2.out.up hb3)
          clear hb3
          go_wp2_with fail
          refine (refSize_any Ap lenp capp _ put H'.out HRp3.out HMp.out.1 HMp.out.2).mono ?_
          rintro e w4 ⟨rfl, hb4⟩
          have HB4 := Lib.hid (below_up HB3.out hb4)
          have HR4 := Lib.hid (HR3.out.up hb4)
          have HRp4 := Lib.hid (HRp3.out.up hb4)
          clear hb4
          go_wp2_with fail
          go_ret2
          rw [HE.out, HP.out]
          exact ⟨⟨_, _, _, rfl, Own.nil _ _⟩, HB4.out⟩
        · have hE : spliceE l at_ n put = 0 := by unfold spliceE; rw [if_neg (by simpa using ⟨HM.out, HMp.out⟩), if_neg hc, if_neg hbig]
          have hP : spliceL l at_ n put = joinL (firstA l at_ ++ put ++ firstB (firstB l at_) n) := by unfold spliceL; rw [if_pos hE, ref_splice HM.out HMp.out at_ n x0 x1 x2 x3]
          have HE := Lib.hid hE; have HP := Lib.hid hP
          have hbig' : tot l - n + tot put ≤ 1099511627776 := by omega
          have ob := firstB_ok HM.out.1 at_ x0
          have tb := firstB_tot HM.out.1 at_ x0 x2
          have ta := firstA_tot HM.out.1 at_ x0 x2
          have tbb := firstB_tot ob n x1 (by omega)
          have la := len_le_tot _ (firstA_ok HM.out.1 at_)
          have lp := len_le_tot _ HMp.out.1
          have lb := len_le_tot _ (firstB_ok ob n x1)
          have hOk := ((firstA_ok HM.out.1 at_).append HMp.out.1).append (firstB_ok ob n x1)
          have hTot : tot (firstA l at_ ++ put ++ firstB (firstB l at_) n) ≤ 1099511627776 := by rw [tot_append, tot_append]; omega
          rw [ta] at la
          rw [tbb, tb] at lb
          have HOk := Lib.hid hOk; have HTot := Lib.hid hTot; have HOB := Lib.hid ob; have HTB := Lib.hid tb
          clear hE hP hc hbig ob tb ta tbb hOk hTot
          go_enter Try.func12, Try.ntmps12
          go_wp2_with fail
          refine (refMay_any A len cap _ l H.out HR.out hm).mono ?_
          rintro e w1 ⟨rfl, hb⟩
          have HB := Lib.hid hb
          have HR1 := Lib.hid (HR.out.up hb)
          have HRp1 := Lib.hid (HRp.out.up hb)
          clear hb
          go_wp2_with fail
          refine (refMay_any Ap lenp capp _ put H'.out HRp1.out hmp).mono ?_
          rintro e w2 ⟨rfl, hb2⟩
          have HB2 := Lib.hid (below_up HB.out hb2)
          have HR2 := Lib.hid (HR1.out.up hb2)
          have HRp2 := Lib.hid (HRp1.out.up hb2)
          clear hb2
          go_wp2_with fail
          refine (refSize_any A len cap _ l H.out HR2.out HM.out.1 HM.out.2).mono ?_
          rintro e w3 ⟨rfl, hb3⟩
          have HB3 := Lib.hid (below_up HB2.out hb3)
          have HR3 := Lib.hid (HR2.out.up hb3)
          have HRp3 := Lib.hid (HRp2.out.up hb3)
          clear hb3
          go_wp2_with fail
          refine (refSize_any Ap lenp capp _ put H'.out HRp3.out HMp.out.1 HMp.out.2).mono ?_
          rintro e w4 ⟨rfl, hb4⟩
          have HB4 := Lib.hid (below_up HB3.out hb4)
          have HR4 := Lib.hid (HR3.out.up hb4)
          have HRp4 := Lib.hid (HRp3.out.up hb4)
          clear hb4
          go_wp2_with fail
          refine (First_any A len cap _ _ l H.out HR4.out HM.out.1 HM.out.2 (by omega) (by omega)).mono ?_
          rintro e w5 ⟨⟨A3, m3, c3, A4, m4, c4, rfl, hown3, hown4⟩, hb5⟩
          have hm3 : (m3 : Int) ≤ at_ := by rw [← hown3.1]; exact la
          have HO3 := Lib.hid hown3
          have HO4 := Lib.hid hown4
          have HRp5 := Lib.hid (HRp4.out.up hb5)
          have HB5 := Lib.hid (below_up HB4.out hb5)
          clear hb5 hown3 hown4
          go_wp2_with fail
          refine (First_any A4 m4 c4 _ _ (firstB l at_) HO4.out.1 HO4.out.rd HOB.out (by have := HTB.out; omega) (by omega) (by omega)).mono ?_
          rintro e w6 ⟨⟨A5, m5, c5, A6, m6, c6, rfl, hown5, hown6⟩, hb6⟩
          have hm6 : (m6 : Int) ≤ tot l - at_ - n := by rw [← hown6.1]; exact lb
          have HO6 := Lib.hid hown6
          have HO3' := Lib.hid (HO3.out.below hb6 (Nat.le_refl _))
          have HRp6 := Lib.hid (HRp5.out.up hb6)
          have HB6 := Lib.hid (below_up HB5.out hb6)
          have hlp : (lenp : Int) ≤ tot put := by rw [← H'.out]; exact lp
          have HN3 := Lib.hid HO3.out.none
          have HN6 := Lib.hid HO6.out.none
          clear hb6 hown5 hown6 la lb lp
          go_wp2_with (at_builtin; refine wpList_append_any rfl (.tmp 63) (.tmp 64) 22 rfl w6.heap.size 31 i0 _ 3 24 Try.underlying22 hi hz0 hz1 hz2 rfl (by decide) _ _ _ rfl (Own.nil w6 w6.heap.size).2 A3 m3 c3 (cells (firstA l at_)) rfl HN3.out (by rw [cells_len, HO3.out.1]) HO3'.out.rd.cells (cells_one_cell _) (by unfold maxLen; omega) (by omega) (by simp) ?_)
          intro v' w7 hown' hgrow
          have hown'' : w7.ownsRow w6.heap.size 31 3 v' (0 + m3) (cells [] ++ cells (firstA l at_)) := by rw [Nat.zero_add]; exact hown'
          obtain ⟨⟨A7, c7, hv, hown7⟩, hbb, _, hsz7, _⟩ := appL_step (w := w6) (Own.nil w6 w6.heap.size) (Below.refl _ _) (Nat.le_refl _) (Below.refl _ _) HO3.out.1 hown'' hgrow
          rw [Nat.zero_add, List.nil_append] at hown7
          rw [Nat.zero_add] at hv
          have HO7 := Lib.hid hown7
          have HBB := Lib.hid hbb
          rw [hv]
          clear hown' hown'' hgrow hv hown7 hbb
          go_wp2_with (at_builtin; refine wpList_append_any rfl (.tmp 66) (.tmp 67) 22 rfl w6.heap.size 31 i0 _ 3 24 Try.underlying22 hi hz0 hz1 hz2 rfl (by decide) _ _ _ rfl HO7.out.2 Ap lenp capp (cells put) rfl HNp.out (by rw [cells_len, H'.out]) (HRp6.out.below HBB.out (Nat.le_refl _)).cells (cells_one_cell _) (by unfold maxLen; omega) (by omega) hsz7 ?_)
          intro v' w8 hown' hgrow
          obtain ⟨⟨A8, c8, hv, hown8⟩, hbb, _, hsz8, _⟩ := appL_step HO7.out HBB.out hsz7 (Below.refl _ _) H'.out hown' hgrow
          have hsz8' : w6.heap.size ≤ w8.heap.size := by omega
          have HO8 := Lib.hid hown8
          have HBB8 := Lib.hid hbb
          rw [hv]
          clear hown' hgrow hv hown8 hbb
          go_wp2_with (at_builtin; refine wpList_append_any rfl (.tmp 69) (.tmp 70) 22 rfl w6.heap.size 31 i0 _ 3 24 Try.underlying22 hi hz0 hz1 hz2 rfl (by decide) _ _ _ rfl HO8.out.2 A6 m6 c6 (cells (firstB (firstB l at_) n)) rfl HN6.out (by rw [cells_len, HO6.out.1]) (HO6.out.rd.below HBB8.out (Nat.le_refl _)).cells (cells_one_cell _) (by unfold maxLen; omega) (by omega) hsz8' ?_)
          intro v' w9 hown' hgrow
          obtain ⟨⟨A9, c9, hv, hown9⟩, hbb, _, hsz9, _⟩ := appL_step HO8.out HBB8.out hsz8' (Below.refl _ _) HO6.out.1 hown' hgrow
          have HO9 := Lib.hid hown9
          have HB9 := Lib.hid (below_up HB6.out hbb)
          rw [hv]
          clear hown' hgrow hv hown9 hbb
          go_wp2_with fail
          refine (refJoin_any A9 (m3 + lenp + m6) c9 _ (firstA l at_ ++ put ++ firstB (firstB l at_) n) HO9.out.1 HO9.out.rd HOk.out HTot.out).mono ?_
          rintro e w10 ⟨⟨A10, m10, c10, rfl, hown10⟩, hb10⟩
          have HO10 := Lib.hid (hown10.mono (base' := w.heap.size) HB9.out.size)
          have HB10 := Lib.hid (below_up HB9.out hb10)
          clear hb10 hown10
          go_wp2_with fail
          go_ret2
          rw [HE.out, HP.out]
          exact ⟨⟨_, _, _, rfl, HO10.out⟩, HB10.out⟩
    · have e2 := mayB_not hMp
      have hE : spliceE l at_ n put = 1 := by unfold spliceE; rw [if_pos (fun h => hMp h.2)]
      have hP : spliceL l at_ n put = [] := by unfold spliceL; rw [if_neg (by rw [hE]; decide)]
      have HE := Lib.hid hE; have HP := Lib.hid hP
      clear hE hP hMp
      go_enter Try.func12, Try.ntmps12
      go_wp2_with fail
      refine (refMay_any A len cap _ l H.out HR.out hm).mono ?_
      rintro e w1 ⟨rfl, hb⟩
      have HB := Lib.hid hb
      have HR1 := Lib.hid (HR.out.up hb)
      have HRp1 := Lib.hid (HRp.out.up hb)
      clear hb
      go_wp2_with fail
      refine (refMay_any Ap lenp capp _ put H'.out HRp1.out hmp).mono ?_
      rintro e w2 ⟨rfl, hb2⟩
      have HB2 := Lib.hid (below_up HB.out hb2)
      have HR2 := Lib.hid (HR1.out.up hb2)
      have HRp2 := Lib.hid (HRp1.out.up hb2)
      clear hb2
      go_wp2_with fail
      go_ret2
      rw [HE.out, HP.out]
      exact ⟨⟨_, _, _, rfl, Own.nil _ _⟩, HB2.out⟩
  · have e1 := mayB_not hM
    have hE : spliceE l at_ n put = 1 := by unfold spliceE; rw [if_pos (fun h => hM h.1)]
    have hP : spliceL l at_ n put = [] := by unfold spliceL; rw [if_neg (by rw [hE]; decide)]
    have HE := Lib.hid hE; have HP := Lib.hid hP
    clear hE hP hM
    go_enter Try.func12, Try.ntmps12
    go_wp2_with fail
    refine (refMay_any A len cap _ l H.out HR.out hm).mono ?_
    rintro e w1 ⟨rfl, hb⟩
    go_wp2_with fail
    go_ret2
    rw [HE.out, HP.out]
    exact ⟨⟨_, _, _, rfl, Own.nil _ _⟩, hb⟩

theorem refPiece_any (A : Option Addr) (len cap : Nat) (at_ n : Int) (w : World) (l : List S) (hlen : l.length = len) (hr : Rd w w.heap.size A l) (hm : len ≤ 9223372036854775807) (a0 : -9223372036854775808 ≤ at_) (a1 : at_ ≤ 9223372036854775807)
    (n0 : -9223372036854775808 ≤ n) (n1 : n ≤ 9223372036854775807) :
    Calls Try.prog 23 #[.slice A len cap, .int .i64 at_, .int .i64 n] w fun e w' => (∃ A' m c, e = .returned (.tuple #[.slice A' m c, .int .i64 (pieceE l at_ n)]) ∧ Own w' w.heap.size A' m c (pieceL l at_ n)) ∧ Below w.heap.size w w' := by
  by_cases hM : MayP l
  · have e1 := mayB_of hM
    have t0 := tot_nonneg l hM.1
    have t1 := hM.2
    have H := Lib.hid hlen; have HM := Lib.hid hM; have HR := Lib.hid hr
    by_cases hc : at_ < 0 ∨ n < 0 ∨ tot l < at_ ∨ tot l - at_ < n
    · have hE : pieceE l at_ n = 2 := by unfold pieceE; rw [if_neg (by simpa using hM), if_pos hc]
      have hP : pieceL l at_ n = [] := by unfold pieceL; rw [if_neg (by rw [hE]; decide)]
      have HE := Lib.hid hE; have HP := Lib.hid hP
      clear hlen hM hr hE hP
      go_enter Try.func23, Try.ntmps23
      go_wp2_with fail
      refine (refMay_any A len cap _ l H.out HR.out hm).mono ?_
      rintro e w1 ⟨rfl, hb⟩
      have HB := Lib.hid hb
      clear hb
      go_wp2_with fail
      refine (refSize_any A len cap _ l H.out (HR.out.up HB.out) HM.out.1 HM.out.2).mono ?_
      rintro e w2 ⟨rfl, hb2⟩
      have HB2 := Lib.hid hb2
      clear hb2
      go_wp2_with fail
      all_goals
        go_ret2
        rw [HE.out, HP.out]
        exact ⟨⟨_, _, _, rfl, Own.nil _ _⟩, below_up HB.out HB2.out⟩
    · have hE : pieceE l at_ n = 0 := by unfold pieceE; rw [if_neg (by simpa using hM), if_neg hc]
      have x0 : 0 ≤ at_ := by omega
      have x1 : 0 ≤ n := by omega
      have x2 : at_ ≤ tot l := by omega
      have x3 : n ≤ tot l - at_ := by omega
      have hP : pieceL l at_ n = joinL (firstA (firstB l at_) n) := by unfold pieceL; rw [if_pos hE, ref_piece hM at_ n x0 x1]
      have ob := firstB_ok hM.1 at_ x0
      have tb := firstB_tot hM.1 at_ x0 x2
      have ta := firstA_tot ob n x1 (by omega)
      have oa := firstA_ok ob n
      have HE := Lib.hid hE; have HP := Lib.hid hP; have HOB := Lib.hid ob; have HTB := Lib.hid tb; have HTA := Lib.hid ta; have HOA := Lib.hid oa
      clear hlen hM hr hE hP hc ob tb ta oa
      go_enter Try.func23, Try.ntmps23
      go_wp2_with fail
      refine (refMay_any A len cap _ l H.out HR.out hm).mono ?_
      rintro e w1 ⟨rfl, hb⟩
      have HB := Lib.hid hb
      clear hb
      go_wp2_with fail
      refine (refSize_any A len cap _ l H.out (HR.out.up HB.out) HM.out.1 HM.out.2).mono ?_
      rintro e w2 ⟨rfl, hb2⟩
      have HB2 := Lib.hid (below_up HB.out hb2)
      have HR2 := Lib.hid ((HR.out.up HB.out).up hb2)
      clear hb2
      go_wp2_with fail
      refine (First_any A len cap _ _ l H.out HR2.out HM.out.1 HM.out.2 (by omega) (by omega)).mono ?_
      rintro e w5 ⟨⟨A3, m3, c3, A4, m4, c4, rfl, hown3, hown4⟩, hb5⟩
      have HO4 := Lib.hid hown4
      have HB5 := Lib.hid (below_up HB2.out hb5)
      clear hb5 hown3 hown4
      go_wp2_with fail
      refine (First_any A4 m4 c4 _ _ (firstB l at_) HO4.out.1 HO4.out.rd HOB.out (by have := HTB.out; omega) (by omega) (by omega)).mono ?_
      rintro e w6 ⟨⟨A5, m5, c5, A6, m6, c6, rfl, hown5, hown6⟩, hb6⟩
      have HO5 := Lib.hid hown5
      have HB6 := Lib.hid (below_up HB5.out hb6)
      clear hb6 hown5 hown6
      go_wp2_with fail
      refine (refJoin_any A5 m5 c5 _ (firstA (firstB l at_) n) HO5.out.1 HO5.out.rd HOA.out (by have := HTA.out; omega)).mono ?_
      rintro e w7 ⟨⟨A7, m7, c7, rfl, hown7⟩, hb7⟩
      have HO7 := Lib.hid (hown7.mono (base' := w.heap.size) HB6.out.size)
      have HB7 := Lib.hid (below_up HB6.out hb7)
      clear hb7 hown7
      go_wp2_with fail
      go_ret2
      rw [HE.out, HP.out]
      exact ⟨⟨_, _, _, rfl, HO7.out⟩, HB7.out⟩
  · have e1 := mayB_not hM
    have hE : pieceE l at_ n = 1 := by unfold pieceE; rw [if_pos hM]
    have hP : pieceL l at_ n = [] := by unfold pieceL; rw [if_neg (by rw [hE]; decide)]
    have HE := Lib.hid hE; have HP := Lib.hid hP
    clear hE hP
    go_enter Try.func23, Try.ntmps23
    go_wp2_with fail
    refine (refMay_any A len cap _ l hlen hr hm).mono ?_
    rintro e w1 ⟨rfl, hb⟩
    go_wp2_with fail
    go_ret2
    rw [HE.out, HP.out]
    exact ⟨⟨_, _, _, rfl, Own.nil _ _⟩, hb⟩
set_option maxHeartbeats 800000 in
theorem refText_any (A : Option Addr) (len cap : Nat) (As : Option Addr) (ns cs : Nat) (w : World) (l : List S) (srcs : List (List Int)) (hlen : l.length = len) (hr : Rd w w.heap.size A l) (hm : len ≤ 9223372036854775807)
    (hls : srcs.length = ns) (hrs : RdBL w w.heap.size As srcs) (_hms : ns ≤ 9223372036854775807) :
    Calls Try.prog 31 #[.slice A len cap, .slice As ns cs] w (TextR w srcs l) := by
  have H := Lib.hid hlen; have HR := Lib.hid hr
  have HLS := Lib.hid hls; have HRS := Lib.hid hrs
  clear hlen hr hls hrs
  obtain ⟨i0, hi, hz0, hz1, hz2⟩ := info_parts info5
  by_cases hM : MayP l
  · have e1 := mayB_of hM
    have t1 := hM.2
    have HM := Lib.hid hM
    have hTE : TextE srcs l = textE srcs l := by unfold TextE; rw [if_pos hM]
    have HTE := Lib.hid hTE
    clear hM hTE
    go_enter Try.func31, Try.ntmps31
    go_wp2_with fail
    refine (refMay_any A len cap _ l H.out HR.out hm).mono ?_
    rintro e w1 ⟨rfl, hb1⟩
    have HR1 := Lib.hid (HR.out.up hb1)
    have HRS1 := Lib.hid (HRS.out.up hb1)
    have HB1 := Lib.hid hb1
    clear hb1
    go_wp2_with fail
    generalize hBB : w1.heap.size = BB at *
    have HBB := Lib.hid hBB; clear hBB
    go_loopw [6, 7] (fun v i wr => ∃ k A' n c, k ≤ len ∧ i = .int .i64 k ∧ v = .slice A' n c ∧ Hid (∀ s ∈ l.take k, Has srcs s) ∧ OwnB wr BB A' n c (textB srcs (l.take k)) ∧ Below BB w1 wr) (fun _ i _ => len - (intOf i).toNat)
    case atStart => exact ⟨0, _, _, _, Nat.zero_le _, rfl, rfl, Lib.hid (fun s hs => by simp at hs), OwnB.nil _ _, Below.refl _ _⟩
    case round =>
      obtain ⟨k, A', n, c, hk, rfl, rfl, hhas, hown, hb⟩ := hrel
      have HO := Lib.hid hown
      have HBel := Lib.hid hb
      have hsz : BB ≤ wr.heap.size := by have := hb.size; have := HBB.out; omega
      by_cases hlt : k < len
      · obtain ⟨s, hs⟩ := get_some l k (by have := H.out; omega)
        have hTA := textE_at hs hhas.out
        have e1 := tot_take_succ l k s hs
        have q1 := tot_take_le l HM.out.1 (k+1)
        have hn : (n : Int) = tot (l.take k) := by rw [← textB_length hhas.out (HM.out.1.take k), hown.1]
        have hn2 : (n : Int) + s.len ≤ 1099511627776 := by omega
        have HTB := Lib.hid (@textB_snoc srcs l k s hs)
        have HHT := Lib.hid (@has_take srcs l k s hs hhas.out)
        obtain ⟨o1, o2, o3, o4, o5⟩ := HM.out.1.at_ hs
        obtain ⟨b, off, rfl, hb', h0, h1, h2⟩ := HR1.out.below hb (by omega) k s hs
        obtain ⟨src, at_, slen⟩ := s
        simp only at *
        obtain ⟨σ, rfl⟩ := Int.eq_ofNat_of_zero_le o1
        obtain ⟨α, rfl⟩ := Int.eq_ofNat_of_zero_le o3
        obtain ⟨μ, rfl⟩ := Int.eq_ofNat_of_zero_le (show 0 ≤ slen by omega)
        have HTA := Lib.hid hTA
        clear hTA e1 q1 hn hs hb' hown hb
        by_cases hσ : ns ≤ σ
        · have hE : TextE srcs l = 6 := by
            rw [HTE.out, HTA.out, textE, if_pos (by have := HLS.out; simp only; omega)]
          have HE := Lib.hid hE
          clear hE
          go_wp2_with fail
          go_ret2
          refine ⟨⟨_, _, _, by rw [HE.out]; rfl, ?_⟩, HB1.out.trans ((HBel.out.alloc hsz _).mono (by have := HB1.out.size; have := HBB.out; omega))⟩
          rw [TextL_err (by rw [HE.out]; decide)]
          exact OwnB.nil _ _
        · obtain ⟨t, ht⟩ := get_some srcs σ (by have := HLS.out; omega)
          have hsrc : srcOf srcs ⟨σ, α, μ⟩ = t := by unfold srcOf; rw [Int.toNat_natCast, List.getD_eq_getElem?_getD, ht]; rfl
          obtain ⟨b2, off2, Ak, ck, rfl, hb2, c0, c1, c2, hrb⟩ := HRS1.out.below HBel.out (by have := HBB.out; omega) σ t ht
          have hTA2 := HTA.out
          rw [textE, if_neg (by have := HLS.out; simp only; omega), hsrc] at hTA2
          simp only at hTA2
          unfold maxLen at c2
          have hb2w : b2 < wr.heap.size := by have := HBB.out; omega
          by_cases hbd : (t.length : Int) < α ∨ (t.length : Int) - α < μ
          · have hE : TextE srcs l = 2 := by rw [HTE.out, hTA2, if_pos hbd]
            have HE := Lib.hid hE
            clear hE hTA2 hsrc ht hrb
            go_wp2_with fail
            all_goals
              go_ret2
              refine ⟨⟨_, _, _, by rw [HE.out]; rfl, ?_⟩, HB1.out.trans ((HBel.out.alloc hsz _).mono (by have := HB1.out.size; have := HBB.out; omega))⟩
              rw [TextL_err (by rw [HE.out]; decide)]
              exact OwnB.nil _ _
          · have d0 : α ≤ t.length := by omega
            have d1 : α + μ ≤ t.length := by omega
            have hHas : Has srcs ⟨σ, α, μ⟩ := by
              unfold Has; rw [hsrc]; have := HLS.out; simp only; omega
            obtain ⟨u, hu⟩ := get_some t 0 (by omega)
            obtain ⟨b3, off3, rfl, hb3, _⟩ := hrb 0 u hu
            have hP : pieceB srcs ⟨σ, α, μ⟩ = (t.drop α).take μ := by unfold pieceB; rw [hsrc]; rfl
            have hPl : ((t.drop α).take μ).length = μ := by simp; omega
            have HP := Lib.hid hP; have HPl := Lib.hid hPl; have HHas := Lib.hid hHas
            have HPI := Lib.hid ((hrb.piece α μ).more (B' := BB) (by have := HBB.out; omega))
            have hck : (ck = α) = False := by simp; omega
            clear hP hPl hHas hrb hu hTA2 hsrc ht hbd
            go_wp2_with (at_builtin; (refine wpList_append_own _ rfl _ _ 34 rfl BB 5 i0 _ 1 1 Try.underlying34 hi hz0 hz1 hz2 rfl (by decide) _ _ _ rfl (HO.out.alloc _).2 _ _ _ (bcells ((t.drop α).take μ)) rfl ?c0 ?c1 ?c2 ?c3 ?c4 ?c5 ?_))
            case c0 => rw [bcells, List.length_map, HPl.out]; omega
            case c1 => exact (HPI.out.alloc hsz _).cells
            case c2 => exact bcells_one _
            case c3 => unfold maxLen; omega
            case c4 => omega
            case c5 => simp; omega
            intro v' w2 hown' hgrow _
            obtain ⟨⟨A'', c'', hv, hown2⟩, hb2', _, hz3, hcl⟩ := appB_step HO.out HBel.out hsz ((Below.refl _ _).alloc (Nat.le_refl _) _) HPl.out hown' hgrow
            rw [hv]
            clear hcl hgrow hown' hv
            go_wp2
            go_roundw
            case rel => exact ⟨k+1, A'', n+μ, c'', by omega, by go_num, rfl, Lib.hid (HHT.out HHas.out), by rw [HTB.out, HP.out]; exact hown2, hb2'⟩
            case measure => simp [intOf]; omega
      · obtain rfl : k = len := by omega
        clear hlt
        have e2 : l.take k = l := by rw [List.take_of_length_le (Nat.le_of_eq H.out)]
        rw [e2] at hown hhas
        have hE : TextE srcs l = 0 := by rw [HTE.out, textE_all hhas.out]
        have HE := Lib.hid hE
        clear hE
        have hnb : n ≤ 140737488355328 := by
          have h1 := textB_length hhas.out HM.out.1
          have := hown.1
          omega
        have HOw := Lib.hid hown
        clear hown
        go_wp2_with fail
        refine (Copy_any A' n c _ (textB srcs l) HOw.out.1 HOw.out.rd hnb).mono ?_
        rintro e w9 ⟨⟨A9, m9, c9, rfl, hown9⟩, hb9⟩
        have HO9 := Lib.hid hown9
        have HB9 := Lib.hid (HB1.out.trans ((HBel.out.trans (hb9.mono hsz)).mono (by have := HB1.out.size; have := HBB.out; omega)))
        clear hown9 hb9
        go_wp2_with fail
        go_ret2
        refine ⟨⟨_, _, _, by rw [HE.out]; rfl, ?_⟩, HB9.out⟩
        rw [TextL_ok HE.out]
        exact HO9.out.mono (by have := HB1.out.size; have := HBB.out; omega)
  · have e1 := mayB_not hM
    have hTE : TextE srcs l = 1 := by unfold TextE; rw [if_neg hM]
    have hTL : TextL srcs l = [] := by unfold TextL; rw [if_neg (by rw [hTE]; decide)]
    have HTE := Lib.hid hTE
    have HTL := Lib.hid hTL
    clear hM hTE hTL
    go_enter Try.func31, Try.ntmps31
    go_wp2_with fail
    refine (refMay_any A len cap _ l H.out HR.out hm).mono ?_
    rintro e w1 ⟨rfl, hb1⟩
    go_wp2_with fail
    go_ret2
    refine ⟨⟨_, _, _, by rw [HTE.out]; rfl, ?_⟩, hb1⟩
    rw [HTL.out]
    exact OwnB.nil _ _

end Go.Proofs.Ytlgablhlpcmcaaa
