/-
  That the law ScrapSplices returns true, for every list, all numbers and every list put in (each of at most 5 times 2^40 scraps).
-/
import Derived.Test.YtlgablhlpcmcaaaRefd
import Derived.Test.YtlgablhlpcmcaaaWalkj
namespace Go.Proofs.Ytlgablhlpcmcaaa
open Go.RowKit
theorem cells_set (l : List S) (k : Nat) (s : S) (x : Int) (h : l[k]? = some s) : (cells l).set (k * 3 + 2) (.int .i64 x) = cells (l.set k { s with len := x }) := by
  induction l generalizing k with
  | nil => simp at h
  | cons a l ih =>
    cases k with
    | zero => simp at h; subst h; rfl
    | succ k =>
      simp at h
      have h1 := ih k h
      have e : (k + 1) * 3 + 2 = k * 3 + 2 + 1 + 1 + 1 := by omega
      rw [e, cells_cons, List.set_cons_succ, List.set_cons_succ, List.set_cons_succ, List.set_cons_succ, cells_cons, h1]
theorem Own.setLen {w : World} {base g n cap : Nat} {L : List S} (h : Own w base (some ⟨g, 0, Option.none⟩) n cap L) (k : Nat) (hk : k < n) (x : Int) :
    ∃ L', Own (w.setCell ⟨g, k * 3 + 2, Option.none⟩ (.int .i64 x)) base (some ⟨g, 0, Option.none⟩) n cap L' := by
  obtain ⟨s, hs⟩ := get_some L k (by rw [h.1]; exact hk)
  refine ⟨L.set k { s with len := x }, by simp [h.1], ?_⟩
  rw [← cells_set L k s x hs]
  exact (h.2.stored (k * 3 + 2) (.int .i64 x)).1
theorem spliceE_bd (l put : List S) (at_ n : Int) : 0 ≤ spliceE l at_ n put ∧ spliceE l at_ n put ≤ 10 := by
  unfold spliceE; repeat' split
  all_goals decide
set_option maxHeartbeats 800000 in
theorem splices_walk (A : Option Addr) (len cap : Nat) (at_ n : Int) (Ap : Option Addr) (lenp capp : Nat) (w : World) (l : List S) (hlen : l.length = len) (hr : Rd w w.heap.size A l) (hnone : A = none → len = 0 ∧ cap = 0) (hm : (len + 2) * 24 ≤ 140737488355328) (a0 : -9223372036854775808 ≤ at_) (a1 : at_ ≤ 9223372036854775807)
    (n0 : -9223372036854775808 ≤ n) (n1 : n ≤ 9223372036854775807) (put : List S) (hlenp : put.length = lenp) (hrp : Rd w w.heap.size Ap put) (hnp : Ap = none → lenp = 0 ∧ capp = 0) (hmp : (lenp + 2) * 24 ≤ 140737488355328) :
    Calls Try.prog 3 #[.slice A len cap, .int .i64 at_, .int .i64 n, .slice Ap lenp capp] w fun e w' => e = .returned (.bool true) ∧ Below w.heap.size w w' := by
  have H := Lib.hid hlen; have HR := Lib.hid hr; have HN := Lib.hid hnone
  have H' := Lib.hid hlenp; have HRp := Lib.hid hrp; have HNp := Lib.hid hnp
  clear hlen hr hlenp hrp hnp hnone
  go_enter Try.func3, Try.ntmps3
  go_wp2_with fail
  refine (Lent_any A len cap _ l H.out HR.out HN.out hm).mono ?_
  rintro e w1 ⟨⟨ga, ca, rfl, hown⟩, hb⟩
  have HB1 := Lib.hid hb
  have hca := hown.cap
  have HR1 := Lib.hid (HR.out.up hb)
  have HRp1 := Lib.hid (HRp.out.up hb)
  have HA1 := Lib.hid hown.rd
  clear hb hown
  go_wp2_with fail
  refine (Lent_any Ap lenp capp _ put H'.out HRp1.out HNp.out hmp).mono ?_
  rintro e w2 ⟨⟨gb, cb, rfl, hown⟩, hb⟩
  have HB2 := Lib.hid (below_up HB1.out hb)
  have hcb := hown.cap
  have HR2 := Lib.hid (HR1.out.up hb)
  have HRp2 := Lib.hid (HRp1.out.up hb)
  have HA2 := Lib.hid (HA1.out.up hb)
  have HP2 := Lib.hid hown.rd
  unfold maxLen at hca hcb
  obtain ⟨hca1, hca2⟩ := hca
  obtain ⟨hcb1, hcb2⟩ := hcb
  clear hb hown
  go_wp2_with fail
  refine (Splice_any _ len ca at_ n _ lenp cb _ l H.out HA2.out.left (by omega) a0 a1 n0 n1 put H'.out HP2.out.left (by omega)).mono ?_
  rintro e w3 ⟨⟨A3, m3, c3, rfl, hown⟩, hb⟩
  obtain ⟨E0, E1⟩ := spliceE_bd l put at_ n
  generalize hE : spliceE l at_ n put = E at *
  have HE := Lib.hid hE
  clear hE
  have HO3 := Lib.hid hown
  have HB3 := Lib.hid (below_up HB2.out hb)
  have HR3 := Lib.hid (HR2.out.up hb)
  have HRp3 := Lib.hid (HRp2.out.up hb)
  have HA3 := Lib.hid (HA2.out.below hb (Nat.le_refl _))
  have HP3 := Lib.hid (HP2.out.up hb)
  have hz3 := hb.size
  have HZ := Lib.hid (HR2.out.below hb (Nat.le_refl _))
  clear hb hown
  go_wp2_with fail
  refine (refSplice_any A len cap at_ n Ap lenp capp _ l H.out HR3.out (by omega) a0 a1 n0 n1 put H'.out HRp3.out HNp.out (by omega)).mono ?_
  rintro e w4 ⟨⟨A4, m4, c4, rfl, hown⟩, hb⟩
  rw [HE.out]
  have hm34 : m4 = m3 := by rw [← hown.1, ← HO3.out.1]
  have HO4 := Lib.hid hown
  have HM34 := Lib.hid hm34
  have HO34 := Lib.hid (HO3.out.below hb (Nat.le_refl _))
  have HB4 := Lib.hid (below_up HB3.out hb)
  have HRp4 := Lib.hid (HRp3.out.up hb)
  have HA4 := Lib.hid (HA3.out.below hb hz3)
  have HZ4 := Lib.hid (HZ.out.below hb hz3)
  have HP4 := Lib.hid (HP3.out.up hb)
  have hz4 : w2.heap.size ≤ w4.heap.size := by have := hb.size; omega
  have hm3 : m3 ≤ 9223372036854775807 := by have := HO3.out.cap; unfold maxLen at this; omega
  clear hb hown hm34
  go_wp2_with fail
  refine (Same_true A3 m3 c3 A4 m4 c4 _ (spliceL l at_ n put) HO34.out.1 HO34.out.rd hm3 HM34.out HO4.out.rd).mono ?_
  rintro e w5 ⟨rfl, hb⟩
  have HB5 := Lib.hid (below_up HB4.out hb)
  have HO5 := Lib.hid (HO34.out.below hb (Nat.le_refl _))
  have HA5 := Lib.hid (HA4.out.below hb hz4)
  have HZ5 := Lib.hid (HZ4.out.below hb hz4)
  have HRp5 := Lib.hid (HRp4.out.up hb)
  have HP5 := Lib.hid (HP4.out.up hb)
  have hz5 : w2.heap.size ≤ w5.heap.size := by have := hb.size; omega
  clear hb
  go_wp2_with fail
  refine (Kept_any _ len ca A cap _ l H.out (HA5.out.more hz5) (by omega) (by omega) (HZ5.out.more hz5)).mono ?_
  rintro e w6 ⟨rfl, hb⟩
  have HB6 := Lib.hid (below_up HB5.out hb)
  have HO6 := Lib.hid (HO5.out.below hb (Nat.le_refl _))
  have HA6 := Lib.hid (HA5.out.below hb hz5)
  have HZ6 := Lib.hid (HZ5.out.below hb hz5)
  have HRp6 := Lib.hid (HRp5.out.up hb)
  have HP6 := Lib.hid (HP5.out.up hb)
  have hz6 : w2.heap.size ≤ w6.heap.size := by have := hb.size; omega
  clear hb
  go_wp2_with fail
  refine (Kept_any _ lenp cb Ap capp _ put H'.out HP6.out (by omega) (by omega) HRp6.out).mono ?_
  rintro e w7 ⟨rfl, hb⟩
  have HB7 := Lib.hid (below_up HB6.out hb)
  have HO7 := Lib.hid (HO6.out.below hb (Nat.le_refl _))
  have HA7 := Lib.hid (HA6.out.below hb hz6)
  have HZ7 := Lib.hid (HZ6.out.below hb hz6)
  have hz7 : w2.heap.size ≤ w7.heap.size := by have := hb.size; omega
  have hz2 : w.heap.size ≤ w2.heap.size := HB2.out.size
  clear hb
  go_wp2_with fail
  generalize hBB : w2.heap.size = BB at *
  have HBB := Lib.hid hBB; clear hBB
  go_loopw [16] (fun i wr => ∃ k L, k ≤ m3 ∧ i = .int .i64 (k : Nat) ∧ Own wr BB A3 m3 c3 L ∧ Below BB w7 wr) (fun i _ => m3 - (intOf i).toNat)
  case atStart => exact ⟨0, _, Nat.zero_le _, rfl, HO7.out, Below.refl _ _⟩
  case round =>
    obtain ⟨k, L, hk, rfl, hown, hb⟩ := hrel
    have HO := Lib.hid hown
    have HBel := Lib.hid hb
    by_cases hlt : k < m3
    · obtain ⟨g, rfl, hg1, hg2, _, _⟩ := hown.form (by omega)
      obtain ⟨s, hs⟩ := get_some L k (by rw [hown.1]; exact hlt)
      obtain ⟨b', off', e', _, _, _, c2⟩ := hown.rd k s hs
      cases e'
      have fz := hown.2.frozenAt (k * 3 + 2)
      have HNX := Lib.hid (hown.setLen k hlt (-1))
      simp only [Nat.zero_add] at c2
      clear hown hb hs
      go_wp2_with fail
      go_roundw
      case rel =>
        obtain ⟨L', hL'⟩ := HNX.out
        exact ⟨k+1, L', by omega, by go_num, hL', HBel.out.setCell hg1 _⟩
      case measure => simp [intOf]; omega
    · obtain rfl : k = m3 := by omega
      clear hlt hown hb
      have HB8 := Lib.hid (HB7.out.trans (HBel.out.mono hz2))
      have HA8 := Lib.hid (HA7.out.below HBel.out (Nat.le_refl _))
      have HZ8 := Lib.hid (HZ7.out.below HBel.out (Nat.le_refl _))
      have hz8 : BB ≤ wr.heap.size := by have := HBel.out.size; omega
      go_wp2_with fail
      refine (awake_any _).mono ?_
      rintro e w9 ⟨rfl, hb⟩
      have HB9 := Lib.hid (below_up HB8.out hb)
      have HA9 := Lib.hid (HA8.out.below hb hz8)
      have HZ9 := Lib.hid (HZ8.out.below hb hz8)
      have hz9 : BB ≤ w9.heap.size := by have := hb.size; omega
      clear hb
      go_wp2_with fail
      refine (Kept_any _ len ca A cap _ l H.out (HA9.out.more hz9) (by omega) (by omega) (HZ9.out.more hz9)).mono ?_
      rintro e w10 ⟨rfl, hb⟩
      have HB10 := Lib.hid (below_up HB9.out hb)
      clear hb
      go_wp2_with fail
      go_ret
      exact ⟨rfl, HB10.out⟩
end Go.Proofs.Ytlgablhlpcmcaaa
