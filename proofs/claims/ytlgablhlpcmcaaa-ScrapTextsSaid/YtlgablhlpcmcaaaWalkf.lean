/-
  What scrap.Cut and scrap.Splice answer, for every list and all numbers.
-/
import Derived.Test.YtlgablhlpcmcaaaWalke
namespace Go.Proofs.Ytlgablhlpcmcaaa
open Go.RowKit
open Classical in
noncomputable def cutE (l : List S) (at_ : Int) : Int := if ¬ MayP l then 1 else if at_ < 0 ∨ tot l < at_ then 2 else 0
open Classical in
noncomputable def cutA (l : List S) (at_ : Int) : List S := if cutE l at_ = 0 then joinL (partL l 0 at_) else []
open Classical in
noncomputable def cutB (l : List S) (at_ : Int) : List S := if cutE l at_ = 0 then joinL (partL l at_ (tot l)) else []
theorem Cut_any (A : Option Addr) (len cap : Nat) (at_ : Int) (w : World) (l : List S) (hlen : l.length = len) (hr : Rd w w.heap.size A l) (hm : len ≤ 9223372036854775807) (a0 : -9223372036854775808 ≤ at_) (a1 : at_ ≤ 9223372036854775807) :
    Calls Try.prog 24 #[.slice A len cap, .int .i64 at_] w fun e w' => (∃ A' m c A2 m2 c2, e = .returned (.tuple #[.slice A' m c, .slice A2 m2 c2, .int .i64 (cutE l at_)]) ∧ Own w' w.heap.size A' m c (cutA l at_) ∧ Own w' w.heap.size A2 m2 c2 (cutB l at_)) ∧ Below w.heap.size w w' := by
  by_cases hM : MayP l
  · have e1 := mayB_of hM
    have t0 := tot_nonneg l hM.1
    have t1 := hM.2
    have H := Lib.hid hlen; have HM := Lib.hid hM; have HR := Lib.hid hr
    by_cases hc : at_ < 0 ∨ tot l < at_
    · have hE : cutE l at_ = 2 := by unfold cutE; rw [if_neg (by simpa using hM), if_pos hc]
      have hA : cutA l at_ = [] := by unfold cutA; rw [if_neg (by rw [hE]; decide)]
      have hB : cutB l at_ = [] := by unfold cutB; rw [if_neg (by rw [hE]; decide)]
      have HE := Lib.hid hE; have HA := Lib.hid hA; have HB0 := Lib.hid hB
      clear hlen hM hr hE hA hB
      go_enter Try.func24, Try.ntmps24
      go_wp2_with fail
      refine (may_any A len cap _ l H.out HR.out hm).mono ?_
      rintro e w1 ⟨rfl, hb⟩
      have HB := Lib.hid hb
      clear hb
      go_wp2_with fail
      refine (size_any A len cap _ l H.out (HR.out.up HB.out) HM.out.1 HM.out.2).mono ?_
      rintro e w2 ⟨rfl, hb2⟩
      have HB2 := Lib.hid hb2
      clear hb2
      go_wp2_with fail
      all_goals
        go_ret3
        rw [HE.out, HA.out, HB0.out]
        exact ⟨⟨_, _, _, _, _, _, rfl, Own.nil _ _, Own.nil _ _⟩, below_up HB.out HB2.out⟩
    · have hE : cutE l at_ = 0 := by unfold cutE; rw [if_neg (by simpa using hM), if_neg hc]
      have hA : cutA l at_ = joinL (partL l 0 at_) := by unfold cutA; rw [if_pos hE]
      have hB : cutB l at_ = joinL (partL l at_ (tot l)) := by unfold cutB; rw [if_pos hE]
      have HE := Lib.hid hE; have HA := Lib.hid hA; have HB0 := Lib.hid hB
      have x0 : 0 ≤ at_ := by omega
      have x2 : at_ ≤ tot l := by omega
      clear hlen hM hr hE hA hB hc
      go_enter Try.func24, Try.ntmps24
      go_wp2_with fail
      refine (may_any A len cap _ l H.out HR.out hm).mono ?_
      rintro e w1 ⟨rfl, hb⟩
      have HB := Lib.hid hb
      clear hb
      go_wp2_with fail
      refine (size_any A len cap _ l H.out (HR.out.up HB.out) HM.out.1 HM.out.2).mono ?_
      rintro e w2 ⟨rfl, hb2⟩
      have HB2 := Lib.hid (below_up HB.out hb2)
      have HR2 := Lib.hid ((HR.out.up HB.out).up hb2)
      clear hb2
      go_wp2_with fail
      refine (part_any A len cap _ _ _ l H.out HR2.out HM.out.1 HM.out.2 (by omega) (by omega) (by omega) (by omega)).mono ?_
      rintro e w3 ⟨⟨A', m, c, rfl, hown⟩, hb3⟩
      have HO := Lib.hid hown
      have HR3 := Lib.hid (HR2.out.up hb3)
      have HB3 := Lib.hid (below_up HB2.out hb3)
      clear hb3 hown
      go_wp2_with fail
      refine (joined_any _ 1 1 _ [partL l 0 at_] rfl (RdL.one HO.out.rd HO.out.1 _) (by simpa using partL_ok HM.out.1 _ _) (by simp; have := (partL_may HM.out 0 at_ (by omega) (by omega) (by omega)).2; omega) (by omega)).mono ?_
      rintro e w4 ⟨⟨A2, m2, c2, rfl, hown2⟩, hb4⟩
      have hz := HB3.out.size
      have HO2 := Lib.hid (hown2.mono (base' := w.heap.size) (by simp; omega))
      have hb4' := (Below.alloc (Below.refl w3.heap.size w3) (Nat.le_refl _) (.cells #[.slice A' m c] 22)).trans (hb4.mono (by simp))
      have HB4 := Lib.hid (below_up HB3.out hb4')
      have HR4 := Lib.hid (HR3.out.up hb4')
      clear hb4 hown2 hb4' hz
      go_wp2_with fail
      refine (part_any A len cap _ _ _ l H.out HR4.out HM.out.1 HM.out.2 (by omega) (by omega) (by omega) (by omega)).mono ?_
      rintro e w5 ⟨⟨A3, m3, c3, rfl, hown3⟩, hb5⟩
      have HO3 := Lib.hid hown3
      have HO2' := Lib.hid (HO2.out.below hb5 (Nat.le_refl _))
      have HB5 := Lib.hid (below_up HB4.out hb5)
      clear hb5 hown3 HO2
      go_wp2_with fail
      refine (joined_any _ 1 1 _ [partL l at_ (tot l)] rfl (RdL.one HO3.out.rd HO3.out.1 _) (by simpa using partL_ok HM.out.1 _ _) (by simp; have := (partL_may HM.out at_ (tot l) (by omega) (by omega) (by omega)).2; omega) (by omega)).mono ?_
      rintro e w6 ⟨⟨A4, m4, c4, rfl, hown4⟩, hb6⟩
      have hz := HB5.out.size
      have HO4 := Lib.hid (hown4.mono (base' := w.heap.size) (by simp; omega))
      have hb6' := (Below.alloc (Below.refl w5.heap.size w5) (Nat.le_refl _) (.cells #[.slice A3 m3 c3] 22)).trans (hb6.mono (by simp))
      have HB6 := Lib.hid (below_up HB5.out hb6')
      have HO2'' := Lib.hid (HO2'.out.below hb6' (Nat.le_refl _))
      clear hb6 hown4 hb6' hz HO2'
      go_wp2_with fail
      go_ret3
      rw [HE.out, HA.out, HB0.out]
      refine ⟨⟨_, _, _, _, _, _, rfl, ?_, ?_⟩, HB6.out⟩
      · have := HO2''.out
        simpa using this
      · have := HO4.out
        simpa using this
  · have e1 := mayB_not hM
    have hE : cutE l at_ = 1 := by unfold cutE; rw [if_pos hM]
    have hA : cutA l at_ = [] := by unfold cutA; rw [if_neg (by rw [hE]; decide)]
    have hB : cutB l at_ = [] := by unfold cutB; rw [if_neg (by rw [hE]; decide)]
    have HE := Lib.hid hE; have HA := Lib.hid hA; have HB0 := Lib.hid hB
    clear hE hA hB
    go_enter Try.func24, Try.ntmps24
    go_wp2_with fail
    refine (may_any A len cap _ l hlen hr hm).mono ?_
    rintro e w1 ⟨rfl, hb⟩
    go_wp2_with fail
    go_ret3
    rw [HE.out, HA.out, HB0.out]
    exact ⟨⟨_, _, _, _, _, _, rfl, Own.nil _ _, Own.nil _ _⟩, hb⟩

open Classical in
noncomputable def spliceE (l : List S) (at_ n : Int) (put : List S) : Int := if ¬ (MayP l ∧ MayP put) then 1 else if at_ < 0 ∨ n < 0 ∨ tot l < at_ ∨ tot l - at_ < n then 2 else if 1099511627776 < tot l - n + tot put then 10 else 0
open Classical in
noncomputable def spliceL (l : List S) (at_ n : Int) (put : List S) : List S := if spliceE l at_ n put = 0 then joinL (partL l 0 at_ ++ (put ++ partL l (at_ + n) (tot l))) else []
theorem Splice_any (A : Option Addr) (len cap : Nat) (at_ n : Int) (Ap : Option Addr) (lenp capp : Nat) (w : World) (l : List S) (hlen : l.length = len) (hr : Rd w w.heap.size A l) (hm : len ≤ 9223372036854775807) (a0 : -9223372036854775808 ≤ at_) (a1 : at_ ≤ 9223372036854775807)
    (n0 : -9223372036854775808 ≤ n) (n1 : n ≤ 9223372036854775807) (put : List S) (hlenp : put.length = lenp) (hrp : Rd w w.heap.size Ap put) (hmp : lenp ≤ 9223372036854775807) :
    Calls Try.prog 11 #[.slice A len cap, .int .i64 at_, .int .i64 n, .slice Ap lenp capp] w fun e w' => (∃ A' m c, e = .returned (.tuple #[.slice A' m c, .int .i64 (spliceE l at_ n put)]) ∧ Own w' w.heap.size A' m c (spliceL l at_ n put)) ∧ Below w.heap.size w w' := by
  have H := Lib.hid hlen; have HR := Lib.hid hr
  have H' := Lib.hid hlenp; have HRp := Lib.hid hrp
  clear hlen hr hlenp hrp
  by_cases hM : MayP l
  · have e1 := mayB_of hM
    have t0 := tot_nonneg l hM.1
    have t1 := hM.2
    have HM := Lib.hid hM
    clear hM
    by_cases hMp : MayP put
    · have e2 := mayB_of hMp
      have u0 := tot_nonneg put hMp.1
      have u1 := hMp.2
      have HMp := Lib.hid hMp
      clear hMp
      by_cases hc : at_ < 0 ∨ n < 0 ∨ tot l < at_ ∨ tot l - at_ < n
      · have hE : spliceE l at_ n put = 2 := by unfold spliceE; rw [if_neg (by simpa using ⟨HM.out, HMp.out⟩), if_pos hc]
        have hP : spliceL l at_ n put = [] := by unfold spliceL; rw [if_neg (by rw [hE]; decide)]
        have HE := Lib.hid hE; have HP := Lib.hid hP
        clear hE hP
        go_enter Try.func11, Try.ntmps11
        go_wp2_with fail
        refine (may_any A len cap _ l H.out HR.out hm).mono ?_
        rintro e w1 ⟨rfl, hb⟩
        have HB := Lib.hid hb
        have HR1 := Lib.hid (HR.out.up hb)
        have HRp1 := Lib.hid (HRp.out.up hb)
        clear hb
        go_wp2_with fail
        refine (may_any Ap lenp capp _ put H'.out HRp1.out hmp).mono ?_
        rintro e w2 ⟨rfl, hb2⟩
        have HB2 := Lib.hid (below_up HB.out hb2)
        have HR2 := Lib.hid (HR1.out.up hb2)
        have HRp2 := Lib.hid (HRp1.out.up hb2)
        clear hb2
        go_wp2_with fail
        refine (size_any A len cap _ l H.out HR2.out HM.out.1 HM.out.2).mono ?_
        rintro e w3 ⟨rfl, hb3⟩
        have HB3 := Lib.hid (below_up HB2.out hb3)
        have HR3 := Lib.hid (HR2.out.up hb3)
        have HRp3 := Lib.hid (HRp2.out.up hb3)
        clear hb3
        go_wp2_with fail
        all_goals
          go_ret2
          rw [HE.out, HP.out]
          exact ⟨⟨_, _, _, rfl, Own.nil _ _⟩, HB3.out⟩
      · have x0 : 0 ≤ at_ := by omega
        have x1 : 0 ≤ n := by omega
        have x2 : at_ ≤ tot l := by omega
        have x3 : n ≤ tot l - at_ := by omega
        by_cases hbig : 1099511627776 < tot l - n + tot put
        · have hE : spliceE l at_ n put = 10 := by unfold spliceE; rw [if_neg (by simpa using ⟨HM.out, HMp.out⟩), if_neg hc, if_pos hbig]
          have hP : spliceL l at_ n put = [] := by unfold spliceL; rw [if_neg (by rw [hE]; decide)]
          have HE := Lib.hid hE; have HP := Lib.hid hP
          clear hE hP hc
          go_enter Try.func11, Try.ntmps11
          go_wp2_with fail
          refine (may_any A len cap _ l H.out HR.out hm).mono ?_
          rintro e w1 ⟨rfl, hb⟩
          have HB := Lib.hid hb
          have HR1 := Lib.hid (HR.out.up hb)
          have HRp1 := Lib.hid (HRp.out.up hb)
          clear hb
          go_wp2_with fail
          refine (may_any Ap lenp capp _ put H'.out HRp1.out hmp).mono ?_
          rintro e w2 ⟨rfl, hb2⟩
          have HB2 := Lib.hid (below_up HB.out hb2)
          have HR2 := Lib.hid (HR1.out.up hb2)
          have HRp2 := Lib.hid (HRp1.out.up hb2)
          clear hb2
          go_wp2_with fail
          refine (size_any A len cap _ l H.out HR2.out HM.out.1 HM.out.2).mono ?_
          rintro e w3 ⟨rfl, hb3⟩
          have HB3 := Lib.hid (below_up HB2.out hb3)
          have HR3 := Lib.hid (HR2.out.up hb3)
          have HRp3 := Lib.hid (HRp2.out.up hb3)
          clear hb3
          go_wp2_with fail
          refine (size_any Ap lenp capp _ put H'.out HRp3.out HMp.out.1 HMp.out.2).mono ?_
          rintro e w4 ⟨rfl, hb4⟩
          have HB4 := Lib.hid (below_up HB3.out hb4)
          have HR4 := Lib.hid (HR3.out.up hb4)
          have HRp4 := Lib.hid (HRp3.out.up hb4)
          clear hb4
          go_wp2_with fail
          go_ret2
          rw [HE.out, HP.out]
          exact ⟨⟨_, _, _, rfl, Own.nil _ _⟩, HB4.out⟩
        · have hE : spliceE l at_ n put = 0 := by unfold spliceE; rw [if_neg (by simpa using ⟨HM.out, HMp.out⟩), if_neg hc, if_neg hbig]
          have hP : spliceL l at_ n put = joinL (partL l 0 at_ ++ (put ++ partL l (at_ + n) (tot l))) := by unfold spliceL; rw [if_pos hE]
          have HE := Lib.hid hE; have HP := Lib.hid hP
          have hbig' : tot l - n + tot put ≤ 1099511627776 := by omega
          clear hE hP hc hbig
          go_enter Try.func11, Try.ntmps11
          go_wp2_with fail
          refine (may_any A len cap _ l H.out HR.out hm).mono ?_
          rintro e w1 ⟨rfl, hb⟩
          have HB := Lib.hid hb
          have HR1 := Lib.hid (HR.out.up hb)
          have HRp1 := Lib.hid (HRp.out.up hb)
          clear hb
          go_wp2_with fail
          refine (may_any Ap lenp capp _ put H'.out HRp1.out hmp).mono ?_
          rintro e w2 ⟨rfl, hb2⟩
          have HB2 := Lib.hid (below_up HB.out hb2)
          have HR2 := Lib.hid (HR1.out.up hb2)
          have HRp2 := Lib.hid (HRp1.out.up hb2)
          clear hb2
          go_wp2_with fail
          refine (size_any A len cap _ l H.out HR2.out HM.out.1 HM.out.2).mono ?_
          rintro e w3 ⟨rfl, hb3⟩
          have HB3 := Lib.hid (below_up HB2.out hb3)
          have HR3 := Lib.hid (HR2.out.up hb3)
          have HRp3 := Lib.hid (HRp2.out.up hb3)
          clear hb3
          go_wp2_with fail
          refine (size_any Ap lenp capp _ put H'.out HRp3.out HMp.out.1 HMp.out.2).mono ?_
          rintro e w4 ⟨rfl, hb4⟩
          have HB4 := Lib.hid (below_up HB3.out hb4)
          have HR4 := Lib.hid (HR3.out.up hb4)
          have HRp4 := Lib.hid (HRp3.out.up hb4)
          clear hb4
          go_wp2_with fail
          refine (part_any A len cap _ _ _ l H.out HR4.out HM.out.1 HM.out.2 (by omega) (by omega) (by omega) (by omega)).mono ?_
          rintro e w5 ⟨⟨A3, m3, c3, rfl, hown3⟩, hb5⟩
          have HO3 := Lib.hid hown3
          have HR5 := Lib.hid (HR4.out.up hb5)
          have HRp5 := Lib.hid (HRp4.out.up hb5)
          have HB5 := Lib.hid (below_up HB4.out hb5)
          clear hb5 hown3
          go_wp2_with fail
          refine (part_any A len cap _ _ _ l H.out HR5.out HM.out.1 HM.out.2 (by omega) (by omega) (by omega) (by omega)).mono ?_
          rintro e w6 ⟨⟨A4, m4, c4, rfl, hown4⟩, hb6⟩
          have HO4 := Lib.hid hown4
          have HO3' := Lib.hid (HO3.out.below hb6 (Nat.le_refl _))
          have HRp6 := Lib.hid (HRp5.out.up hb6)
          have HB6 := Lib.hid (below_up HB5.out hb6)
          clear hb6 hown4
          go_wp2_with fail
          refine (joined_any _ 3 3 _ [partL l 0 at_, put, partL l (at_ + n) (tot l)] rfl (RdL.three HO3'.out.rd HO3.out.1 HRp6.out H'.out HO4.out.rd HO4.out.1 _) ?_ ?_ (by omega)).mono ?_
          · simp only [List.flatten_cons, List.flatten_nil, List.append_nil]
            exact (partL_ok HM.out.1 _ _).append (HMp.out.1.append (partL_ok HM.out.1 _ _))
          · simp only [List.flatten_cons, List.flatten_nil, List.append_nil, tot_append]
            have h1 := partL_tot HM.out.1 0 at_ (by omega) (by omega)
            have h2 := partL_tot HM.out.1 (at_ + n) (tot l) (by omega) (by omega)
            omega
          rintro e w7 ⟨⟨A5, m5, c5, rfl, hown5⟩, hb7⟩
          have hz := HB6.out.size
          have HO5 := Lib.hid (hown5.mono (base' := w.heap.size) (by simp; omega))
          have hb7' := (Below.alloc (Below.refl w6.heap.size w6) (Nat.le_refl _) (.cells #[.slice A3 m3 c3, .slice Ap lenp capp, .slice A4 m4 c4] 22)).trans (hb7.mono (by simp))
          have HB7 := Lib.hid (below_up HB6.out hb7')
          clear hb7 hown5 hb7' hz
          go_wp2_with fail
          go_ret2
          rw [HE.out, HP.out]
          refine ⟨⟨_, _, _, rfl, ?_⟩, HB7.out⟩
          have := HO5.out
          simpa using this
    · have e2 := mayB_not hMp
      have hE : spliceE l at_ n put = 1 := by unfold spliceE; rw [if_pos (fun h => hMp h.2)]
      have hP : spliceL l at_ n put = [] := by unfold spliceL; rw [if_neg (by rw [hE]; decide)]
      have HE := Lib.hid hE; have HP := Lib.hid hP
      clear hE hP hMp
      go_enter Try.func11, Try.ntmps11
      go_wp2_with fail
      refine (may_any A len cap _ l H.out HR.out hm).mono ?_
      rintro e w1 ⟨rfl, hb⟩
      have HB := Lib.hid hb
      have HR1 := Lib.hid (HR.out.up hb)
      have HRp1 := Lib.hid (HRp.out.up hb)
      clear hb
      go_wp2_with fail
      refine (may_any Ap lenp capp _ put H'.out HRp1.out hmp).mono ?_
      rintro e w2 ⟨rfl, hb2⟩
      have HB2 := Lib.hid (below_up HB.out hb2)
      have HR2 := Lib.hid (HR1.out.up hb2)
      have HRp2 := Lib.hid (HRp1.out.up hb2)
      clear hb2
      go_wp2_with fail
      go_ret2
      rw [HE.out, HP.out]
      exact ⟨⟨_, _, _, rfl, Own.nil _ _⟩, HB2.out⟩
  · have e1 := mayB_not hM
    have hE : spliceE l at_ n put = 1 := by unfold spliceE; rw [if_pos (fun h => hM h.1)]
    have hP : spliceL l at_ n put = [] := by unfold spliceL; rw [if_neg (by rw [hE]; decide)]
    have HE := Lib.hid hE; have HP := Lib.hid hP
    clear hE hP hM
    go_enter Try.func11, Try.ntmps11
    go_wp2_with fail
    refine (may_any A len cap _ l H.out HR.out hm).mono ?_
    rintro e w1 ⟨rfl, hb⟩
    go_wp2_with fail
    go_ret2
    rw [HE.out, HP.out]
    exact ⟨⟨_, _, _, rfl, Own.nil _ _⟩, hb⟩
end Go.Proofs.Ytlgablhlpcmcaaa
