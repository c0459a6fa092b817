/-
  That the law ScrapUndone returns true, for every list, all numbers and every list put in.
-/
import Derived.Test.YtlgablhlpcmcaaaCuts
namespace Go.Proofs.Ytlgablhlpcmcaaa
open Go.RowKit
theorem pieceE_may {l : List S} {at_ n : Int} (h : pieceE l at_ n = 0) : MayP l ∧ 0 ≤ at_ ∧ 0 ≤ n ∧ at_ ≤ tot l ∧ n ≤ tot l - at_ := by
  unfold pieceE at h
  split at h
  · cases h
  · split at h
    · cases h
    · rename_i h1 h2
      have h1' : MayP l := by simpa using h1
      exact ⟨h1', by omega, by omega, by omega, by omega⟩
theorem spliceE_may {l put : List S} {at_ n : Int} (h : spliceE l at_ n put = 0) : MayP l ∧ MayP put ∧ tot l - n + tot put ≤ 1099511627776 := by
  unfold spliceE at h
  split at h
  · cases h
  · split at h
    · cases h
    · split at h
      · cases h
      · rename_i h1 h2 h3
        have h1' : MayP l ∧ MayP put := by simpa using h1
        exact ⟨h1'.1, h1'.2, by omega⟩

set_option maxHeartbeats 400000 in
theorem undone_walk (A : Option Addr) (len cap : Nat) (at_ n : Int) (Ap : Option Addr) (lenp capp : Nat) (w : World) (l : List S) (hlen : l.length = len) (hr : Rd w w.heap.size A l) (hm : len ≤ 9223372036854775807) (a0 : -9223372036854775808 ≤ at_) (a1 : at_ ≤ 9223372036854775807)
    (n0 : -9223372036854775808 ≤ n) (n1 : n ≤ 9223372036854775807) (put : List S) (hlenp : put.length = lenp) (hrp : Rd w w.heap.size Ap put) (hmp : lenp ≤ 9223372036854775807) :
    Calls Try.prog 5 #[.slice A len cap, .int .i64 at_, .int .i64 n, .slice Ap lenp capp] w fun e w' => e = .returned (.bool true) ∧ Below w.heap.size w w' := by
  have H := Lib.hid hlen; have HR := Lib.hid hr
  have H' := Lib.hid hlenp; have HRp := Lib.hid hrp
  clear hlen hr hlenp hrp
  by_cases hok : pieceE l at_ n = 0 ∧ spliceE l at_ n put = 0
  · obtain ⟨hE1, hE2⟩ := hok
    obtain ⟨hM, x0, x1, x2, x3⟩ := pieceE_may hE1
    obtain ⟨_, hMp, hbig⟩ := spliceE_may hE2
    have hP : pieceL l at_ n = joinL (partL l at_ (at_ + n)) := by unfold pieceL; rw [if_pos hE1]
    have hX : spliceL l at_ n put = joinL (partL l 0 at_ ++ (put ++ partL l (at_ + n) (tot l))) := by unfold spliceL; rw [if_pos hE2]
    obtain ⟨hE3, hL3⟩ := undone_splice hM hMp at_ n x0 x1 x2 x3 hbig (spliceL l at_ n put) hX
    rw [← hP] at hE3 hL3
    have hSz : sizeL put = tot put := if_pos hMp
    have hJ : JoinL l = joinL l := if_pos hM
    have u1 := hMp.2
    have u0 := tot_nonneg put hMp.1
    have hxm := (undone_may hM hMp at_ n x0 x1 x2 x3 hbig).1
    rw [← hX] at hxm
    have lx := len_of_may hxm
    have op := joinL_ok (partL_ok hM.1 at_ (at_ + n))
    rw [← hP] at op
    have pm : MayP (pieceL l at_ n) := by
      rw [hP]; exact may_joinL (partL_ok hM.1 _ _) (by have := tot_partL hM.1 at_ (at_ + n) (by omega) (by omega) (by omega); have := hM.2; omega)
    have lp := len_of_may pm
    have HE1 := Lib.hid hE1; have HE2 := Lib.hid hE2; have HE3 := Lib.hid hE3; have HL3 := Lib.hid hL3; have HSz := Lib.hid hSz; have HJ := Lib.hid hJ
    clear hE1 hE2 hE3 hL3 hSz hJ hP hX hM hMp hxm op pm x0 x1 x2 x3 hbig
    go_enter Try.func5, Try.ntmps5
    go_wp2_with fail
    refine (Piece_any A len cap at_ n _ l H.out HR.out hm a0 a1 n0 n1).mono ?_
    rintro e w1 ⟨⟨A1, m1, c1, rfl, hown⟩, hb⟩
    rw [HE1.out]
    have HO1 := Lib.hid hown
    have HB1 := Lib.hid hb
    have HR1 := Lib.hid (HR.out.up hb)
    have HRp1 := Lib.hid (HRp.out.up hb)
    have hm1 : m1 ≤ 9223372036854775807 := by have := hown.1; omega
    clear hb hown
    go_wp2_with fail
    refine (Splice_any A len cap at_ n Ap lenp capp _ l H.out HR1.out hm a0 a1 n0 n1 put H'.out HRp1.out hmp).mono ?_
    rintro e w2 ⟨⟨A2, m2, c2, rfl, hown⟩, hb⟩
    rw [HE2.out]
    have HO2 := Lib.hid hown
    have HP2 := Lib.hid (HO1.out.rd.up hb)
    have HB2 := Lib.hid (below_up HB1.out hb)
    have HR2 := Lib.hid (HR1.out.up hb)
    have HRp2 := Lib.hid (HRp1.out.up hb)
    have hm2 : m2 ≤ 9223372036854775807 := by have := hown.1; omega
    clear hb hown
    go_wp2_with fail
    refine (awake_any _).mono ?_
    rintro e w3 ⟨rfl, hb⟩
    have HX3 := Lib.hid (HO2.out.rd.up hb)
    have HP3 := Lib.hid (HP2.out.up hb)
    have HB3 := Lib.hid (below_up HB2.out hb)
    have HR3 := Lib.hid (HR2.out.up hb)
    have HRp3 := Lib.hid (HRp2.out.up hb)
    clear hb
    go_wp2_with fail
    refine (Size_any Ap lenp capp _ put H'.out HRp3.out hmp).mono ?_
    rintro e w4 ⟨rfl, hb⟩
    rw [HSz.out]
    have HX4 := Lib.hid (HX3.out.up hb)
    have HP4 := Lib.hid (HP3.out.up hb)
    have HB4 := Lib.hid (below_up HB3.out hb)
    have HR4 := Lib.hid (HR3.out.up hb)
    clear hb
    go_wp2_with fail
    refine (Splice_any A2 m2 c2 at_ (tot put) A1 m1 c1 _ (spliceL l at_ n put) HO2.out.1 HX4.out hm2 a0 a1 (by omega) (by omega) (pieceL l at_ n) HO1.out.1 HP4.out hm1).mono ?_
    rintro e w5 ⟨⟨A5, m5, c5, rfl, hown⟩, hb⟩
    rw [HE3.out]
    rw [HL3.out] at hown
    have HO5 := Lib.hid hown
    have HB5 := Lib.hid (below_up HB4.out hb)
    have HR5 := Lib.hid (HR4.out.up hb)
    clear hb hown
    go_wp2_with fail
    refine (Join_any A len cap _ l H.out HR5.out hm).mono ?_
    rintro e w6 ⟨⟨A6, m6, c6, rfl, hown⟩, hb⟩
    rw [HJ.out] at hown
    have HO6 := Lib.hid hown
    have HY6 := Lib.hid (HO5.out.rd.up hb)
    have HB6 := Lib.hid (below_up HB5.out hb)
    have hm6 : m5 ≤ 9223372036854775807 := by have := HO5.out.cap; unfold maxLen at this; omega
    have hm56 : m6 = m5 := by rw [← HO5.out.1, ← HO6.out.1]
    have HM56 := Lib.hid hm56
    clear hb hown hm56
    go_wp2_with fail
    refine (Same_true A5 m5 c5 A6 m6 c6 _ (joinL l) HO5.out.1 HY6.out hm6 HM56.out HO6.out.rd).mono ?_
    rintro e w7 ⟨rfl, hb⟩
    have HB7 := Lib.hid (below_up HB6.out hb)
    clear hb
    go_wp2_with fail
    go_ret
    exact ⟨rfl, HB7.out⟩
  · obtain ⟨E1, hEE1⟩ : ∃ E, E = pieceE l at_ n := ⟨_, rfl⟩
    obtain ⟨E2, hEE2⟩ : ∃ E, E = spliceE l at_ n put := ⟨_, rfl⟩
    rw [← hEE1, ← hEE2] at hok
    have HEE1 := Lib.hid hEE1; have HEE2 := Lib.hid hEE2
    clear hEE1 hEE2
    have HOK := Lib.hid hok
    by_cases c1 : E1 = 0
    · have c2 : ¬ E2 = 0 := fun h => HOK.out ⟨c1, h⟩
      have d1 : (E1 != 0) = false := by simpa using c1
      have d2 : (E2 != 0) = true := by simpa using c2
      clear c1 c2 hok
      go_enter Try.func5, Try.ntmps5
      go_wp2_with fail
      refine (Piece_any A len cap at_ n _ l H.out HR.out hm a0 a1 n0 n1).mono ?_
      rintro e w1 ⟨⟨A1, m1, c1, rfl, hown⟩, hb⟩
      rw [← HEE1.out]
      have HB1 := Lib.hid hb
      have HR1 := Lib.hid (HR.out.up hb)
      have HRp1 := Lib.hid (HRp.out.up hb)
      clear hb hown
      go_wp2_with fail
      refine (Splice_any A len cap at_ n Ap lenp capp _ l H.out HR1.out hm a0 a1 n0 n1 put H'.out HRp1.out hmp).mono ?_
      rintro e w2 ⟨⟨A2, m2, c2, rfl, hown⟩, hb⟩
      rw [← HEE2.out]
      have HB2 := Lib.hid (below_up HB1.out hb)
      clear hb hown
      go_wp2_with fail
      refine (awake_any _).mono ?_
      rintro e w3 ⟨rfl, hb⟩
      have HB3 := Lib.hid (below_up HB2.out hb)
      clear hb
      go_wp2_with fail
      refine (awake_any _).mono ?_
      rintro e w4 ⟨rfl, hb⟩
      have HB4 := Lib.hid (below_up HB3.out hb)
      clear hb
      go_wp2_with fail
      go_ret
      exact ⟨rfl, HB4.out⟩
    · have d1 : (E1 != 0) = true := by simpa using c1
      clear c1 hok
      go_enter Try.func5, Try.ntmps5
      go_wp2_with fail
      refine (Piece_any A len cap at_ n _ l H.out HR.out hm a0 a1 n0 n1).mono ?_
      rintro e w1 ⟨⟨A1, m1, c1, rfl, hown⟩, hb⟩
      rw [← HEE1.out]
      have HB1 := Lib.hid hb
      have HR1 := Lib.hid (HR.out.up hb)
      have HRp1 := Lib.hid (HRp.out.up hb)
      clear hb hown
      go_wp2_with fail
      refine (Splice_any A len cap at_ n Ap lenp capp _ l H.out HR1.out hm a0 a1 n0 n1 put H'.out HRp1.out hmp).mono ?_
      rintro e w2 ⟨⟨A2, m2, c2, rfl, hown⟩, hb⟩
      rw [← HEE2.out]
      have HB2 := Lib.hid (below_up HB1.out hb)
      clear hb hown
      go_wp2_with fail
      refine (awake_any _).mono ?_
      rintro e w3 ⟨rfl, hb⟩
      have HB3 := Lib.hid (below_up HB2.out hb)
      clear hb
      go_wp2_with fail
      refine (awake_any _).mono ?_
      rintro e w4 ⟨rfl, hb⟩
      have HB4 := Lib.hid (below_up HB3.out hb)
      clear hb
      go_wp2_with fail
      go_ret
      exact ⟨rfl, HB4.out⟩
end Go.Proofs.Ytlgablhlpcmcaaa
