/-
  The small functions about blocks: blocks, length, within, joined; the reference's Blocks and stashed.
-/
import Derived.Test.YteceephenfmdoaaMPlan
namespace Go.Proofs.Yteceephenfmdoaa
open Go.RowKit
theorem tdiv64 (x : Int) (h : 0 ≤ x) : x.tdiv 64 = x / 64 := Int.tdiv_eq_ediv_of_nonneg h
theorem blocks_any (n : Int) (w : World) (h0 : 0 ≤ n) (h1 : n ≤ 1099511627776) : Calls Try.prog 40 #[.int .i64 n] w fun e w' => e = .returned (.int .i64 (blocksN n)) ∧ w = w' := by
  have q1 : IntKind.i64.wrap (n + 64) = n + 64 := IntWalk.i64_in _ (by omega)
  have q2 : IntKind.i64.wrap (n + 64 - 1) = n + 63 := by rw [IntWalk.i64_in _ (by omega)]; omega
  have q3 : (n + 63).tdiv 64 = blocksN n := tdiv64 _ (by omega)
  have q4 : IntKind.i64.wrap (blocksN n) = blocksN n := IntWalk.i64_in _ (by unfold blocksN; omega)
  go_enter Try.func40, Try.ntmps40
  go_wp2_with fail
  go_ret
  exact ⟨rfl, rfl⟩
theorem Blocks_any (n : Int) (w : World) (h0 : 0 ≤ n) (h1 : n ≤ 1099511627776) : Calls Try.prog 21 #[.int .i64 n] w fun e w' => e = .returned (.int .i64 (blocksN n)) ∧ w = w' := by
  have q1 : IntKind.i64.wrap (n + 63) = n + 63 := IntWalk.i64_in _ (by omega)
  have q3 : (n + 63).tdiv 64 = blocksN n := tdiv64 _ (by omega)
  have q4 : IntKind.i64.wrap (blocksN n) = blocksN n := IntWalk.i64_in _ (by unfold blocksN; omega)
  go_enter Try.func21, Try.ntmps21
  go_wp2_with fail
  go_ret
  exact ⟨rfl, rfl⟩
theorem length_any (b n : Int) (w : World) (h0 : 0 ≤ b) (h1 : b ≤ 1099511627776) (h2 : 0 ≤ n) (h3 : n ≤ 1099511627776) : Calls Try.prog 42 #[.int .i64 b, .int .i64 n] w fun e w' => e = .returned (.int .i64 (min 64 (n - 64 * b))) ∧ w = w' := by
  have q1 : IntKind.i64.wrap (b * 64) = 64 * b := by rw [IntWalk.i64_in _ (by omega)]; omega
  have q2 : IntKind.i64.wrap (n - 64 * b) = n - 64 * b := IntWalk.i64_in _ (by omega)
  go_enter Try.func42, Try.ntmps42
  go_wp2_with fail
  all_goals
    go_ret
    exact ⟨Sc.ret_int (by omega), rfl⟩
theorem within_any (s : S) (n : Int) (w : World) (hs : Sc.okS s) (h0 : 0 ≤ n) (h1 : n ≤ 9223372036854775807) : Calls Try.prog 38 #[.agg #[.int .i64 s.src, .int .i64 s.at_, .int .i64 s.len], .int .i64 n] w fun e w' => e = .returned (.bool (decide (s.at_ ≤ n) && decide (s.len ≤ n - s.at_))) ∧ Below w.heap.size w w' := by
  unfold Sc.okS at hs
  have q1 : IntKind.i64.wrap (n - s.at_) = n - s.at_ := IntWalk.i64_in _ (by omega)
  obtain ⟨src, at_, len⟩ := s
  simp only at *
  by_cases h : at_ ≤ n
  · go_enter Try.func38, Try.ntmps38
    go_wp2_with fail
    go_ret
    exact ⟨Sc.ret_bool (by simp [h]), (Below.refl _ _).alloc (Nat.le_refl _) _⟩
  · have h' : n < at_ := by omega
    go_enter Try.func38, Try.ntmps38
    go_wp2_with fail
    go_ret
    have h2 : ¬ at_ ≤ n := by omega
    exact ⟨Sc.ret_bool (by simp [h2]), (Below.refl _ _).alloc (Nat.le_refl _) _⟩
theorem mayB_of {l : List S} (h : Sc.MayP l) : Sc.mayB l = true := Sc.mayB_iff.2 h
theorem JoinL_may {l : List S} (h : Sc.MayP l) : Sc.JoinL l = Sc.joinL l := by unfold Sc.JoinL; rw [if_pos h]
open Classical in
/-- Is a list one that may be, and joined? -/
noncomputable def joinedB (l : List S) : Bool := decide (Sc.MayP l ∧ (Sc.joinL l).length = l.length)
theorem joinedB_of {l : List S} (h : Sc.MayP l ∧ (Sc.joinL l).length = l.length) : joinedB l = true := by unfold joinedB; simpa using h
theorem joinedB_not {l : List S} (h : ¬ (Sc.MayP l ∧ (Sc.joinL l).length = l.length)) : joinedB l = false := by unfold joinedB; simpa using h
theorem joinedB_iff {l : List S} : joinedB l = true ↔ Sc.MayP l ∧ (Sc.joinL l).length = l.length := by unfold joinedB; simp
theorem joined_any (A : Option Addr) (len cap : Nat) (w : World) (l : List S) (hlen : l.length = len) (hr : Sc.Rd w w.heap.size A l) (hm : len ≤ 9223372036854775807) :
    Calls Try.prog 55 #[.slice A len cap] w fun e w' => e = .returned (.bool (joinedB l)) ∧ Below w.heap.size w w' := by
  have H := Lib.hid hlen; have HR := Lib.hid hr
  clear hlen hr
  by_cases hM : Sc.MayP l
  · have HM := Lib.hid (mayB_of hM)
    have HJ := Lib.hid (JoinL_may hM)
    go_enter Try.func55, Try.ntmps55
    go_wp2_with fail
    refine (Sc.may_any A len cap w l H.out HR.out hm).mono ?_
    rw [HM.out]
    rintro e w1 ⟨rfl, hb1⟩
    have HB1 := Lib.hid hb1
    have HR1 := Lib.hid ((HR.out.below hb1 (Nat.le_refl _)).more hb1.size)
    clear hb1
    go_wp2_with fail
    refine (Sc.Join_any A len cap w1 l H.out HR1.out hm).mono ?_
    rintro e w2 ⟨⟨A2, n2, c2, rfl, ho⟩, hb2⟩
    have HB2 := Lib.hid (HB1.out.trans (hb2.mono HB1.out.size))
    have hl2 := ho.1
    rw [HJ.out] at hl2
    clear ho hb2
    have hv : (((n2 : Int) == (len : Int)) : Bool) = joinedB l := by
      rw [← hl2, ← H.out]
      by_cases he : (Sc.joinL l).length = l.length
      · rw [joinedB_of ⟨hM, he⟩]; simp [he]
      · rw [joinedB_not (fun h => he h.2)]; simp; omega
    go_wp2_with fail
    go_ret
    exact ⟨Sc.ret_bool rfl, HB2.out⟩
  · have HM := Lib.hid (Sc.mayB_not hM)
    have HJ : Hid (joinedB l = false) := Lib.hid (joinedB_not fun h => hM h.1)
    go_enter Try.func55, Try.ntmps55
    go_wp2_with fail
    refine (Sc.may_any A len cap w l H.out HR.out hm).mono ?_
    rw [HM.out]
    rintro e w1 ⟨rfl, hb1⟩
    have HB1 := Lib.hid hb1
    clear hb1
    go_wp2_with fail
    go_ret
    exact ⟨Sc.ret_bool HJ.out.symm, HB1.out⟩
end Go.Proofs.Yteceephenfmdoaa
