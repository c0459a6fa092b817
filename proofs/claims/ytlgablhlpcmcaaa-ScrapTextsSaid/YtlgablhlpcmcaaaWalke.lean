/-
  What scrap.Piece answers, for every list and every two numbers.
-/
import Derived.Test.YtlgablhlpcmcaaaWalkd
namespace Go.Proofs.Ytlgablhlpcmcaaa
open Go.RowKit
theorem partL_ok {l : List S} (h : Ok l) (f t : Int) : Ok (partL l f t) := by
  induction l generalizing f t with
  | nil => intro s hs; simp [partL] at hs
  | cons a l ih =>
    refine Ok.append ?_ (ih h.tail _ _)
    have ha := h a (by simp)
    by_cases hc : f < a.len ∧ 0 < t ∧ f < t
    · rw [bit_yes hc rfl rfl]
      intro s hs
      simp only [List.mem_singleton] at hs
      subst hs
      unfold okS at *
      simp only
      omega
    · rw [bit_no hc]; intro s hs; simp at hs
theorem partL_tot {l : List S} (h : Ok l) (f t : Int) (hf : 0 ≤ f) (ht : f ≤ t) : tot (partL l f t) ≤ t - f := by
  suffices h1 : ∀ (l : List S) (f t : Int), Ok l → tot (partL l f t) ≤ max t 0 - max f 0 ∨ (t ≤ f ∧ partL l f t = []) by
    rcases h1 l f t h with h2 | ⟨_, h2⟩
    · omega
    · rw [h2]; simp only [tot]; omega
  intro l
  induction l with
  | nil => intro f t _; by_cases h : t ≤ f
           · exact .inr ⟨h, rfl⟩
           · left; simp only [partL, tot]; omega
  | cons a l ih =>
    intro f t h
    have ha := h a (by simp)
    have hl := ih (f - a.len) (t - a.len) h.tail
    unfold okS at ha
    by_cases hc : f < a.len ∧ 0 < t ∧ f < t
    · simp only [partL, bit_yes hc rfl rfl, List.singleton_append, tot]
      left
      rcases hl with h2 | ⟨h3, h2⟩
      · omega
      · omega
    · simp only [partL, bit_no hc, List.nil_append]
      rcases hl with h2 | ⟨h3, h2⟩
      · by_cases h4 : t ≤ f
        · right
          refine ⟨h4, ?_⟩
          have := tot_nonneg _ (partL_ok h.tail (f - a.len) (t - a.len))
          have h5 := len_le_tot _ (partL_ok h.tail (f - a.len) (t - a.len))
          exact List.eq_nil_of_length_eq_zero (by omega)
        · left; omega
      · exact .inr ⟨by omega, h2⟩
theorem partL_may {l : List S} (h : MayP l) (f t : Int) (hf : 0 ≤ f) (ht : f ≤ t) (ht1 : t ≤ 1099511627776) : MayP (partL l f t) :=
  ⟨partL_ok h.1 f t, by have := partL_tot h.1 f t hf ht; omega⟩

open Classical in
noncomputable def pieceE (l : List S) (at_ n : Int) : Int := if ¬ MayP l then 1 else if at_ < 0 ∨ n < 0 ∨ tot l < at_ ∨ tot l - at_ < n then 2 else 0
open Classical in
noncomputable def pieceL (l : List S) (at_ n : Int) : List S := if pieceE l at_ n = 0 then joinL (partL l at_ (at_ + n)) else []

theorem Piece_any (A : Option Addr) (len cap : Nat) (at_ n : Int) (w : World) (l : List S) (hlen : l.length = len) (hr : Rd w w.heap.size A l) (hm : len ≤ 9223372036854775807) (a0 : -9223372036854775808 ≤ at_) (a1 : at_ ≤ 9223372036854775807)
    (n0 : -9223372036854775808 ≤ n) (n1 : n ≤ 9223372036854775807) :
    Calls Try.prog 20 #[.slice A len cap, .int .i64 at_, .int .i64 n] w fun e w' => (∃ A' m c, e = .returned (.tuple #[.slice A' m c, .int .i64 (pieceE l at_ n)]) ∧ Own w' w.heap.size A' m c (pieceL l at_ n)) ∧ Below w.heap.size w w' := by
  by_cases hM : MayP l
  · have e1 := mayB_of hM
    have t0 := tot_nonneg l hM.1
    have t1 := hM.2
    have H := Lib.hid hlen; have HM := Lib.hid hM; have HR := Lib.hid hr
    by_cases hc : at_ < 0 ∨ n < 0 ∨ tot l < at_ ∨ tot l - at_ < n
    · have hE : pieceE l at_ n = 2 := by unfold pieceE; rw [if_neg (by simpa using hM), if_pos hc]
      have hP : pieceL l at_ n = [] := by unfold pieceL; rw [if_neg (by rw [hE]; decide)]
      have HE := Lib.hid hE; have HP := Lib.hid hP
      clear hlen hM hr hE hP
      go_enter Try.func20, Try.ntmps20
      go_wp2_with fail
      refine (may_any A len cap _ l H.out HR.out hm).mono ?_
      rintro e w1 ⟨rfl, hb⟩
      have HB := Lib.hid hb
      clear hb
      go_wp2_with fail
      refine (size_any A len cap _ l H.out (HR.out.up HB.out) HM.out.1 HM.out.2).mono ?_
      rintro e w2 ⟨rfl, hb2⟩
      have HB2 := Lib.hid hb2
      clear hb2
      go_wp2_with fail
      all_goals
        go_ret2
        rw [HE.out, HP.out]
        exact ⟨⟨_, _, _, rfl, Own.nil _ _⟩, below_up HB.out HB2.out⟩
    · have hE : pieceE l at_ n = 0 := by unfold pieceE; rw [if_neg (by simpa using hM), if_neg hc]
      have hP : pieceL l at_ n = joinL (partL l at_ (at_ + n)) := by unfold pieceL; rw [if_pos hE]
      have HE := Lib.hid hE; have HP := Lib.hid hP
      have x0 : 0 ≤ at_ := by omega
      have x1 : 0 ≤ n := by omega
      have x2 : at_ ≤ tot l := by omega
      have x3 : n ≤ tot l - at_ := by omega
      clear hlen hM hr hE hP hc
      go_enter Try.func20, Try.ntmps20
      go_wp2_with fail
      refine (may_any A len cap _ l H.out HR.out hm).mono ?_
      rintro e w1 ⟨rfl, hb⟩
      have HB := Lib.hid hb
      clear hb
      go_wp2_with fail
      refine (size_any A len cap _ l H.out (HR.out.up HB.out) HM.out.1 HM.out.2).mono ?_
      rintro e w2 ⟨rfl, hb2⟩
      have HB2 := Lib.hid (below_up HB.out hb2)
      have HR2 := Lib.hid ((HR.out.up HB.out).up hb2)
      clear hb2
      go_wp2_with fail
      refine (part_any A len cap _ _ _ l H.out HR2.out HM.out.1 HM.out.2 (by omega) (by omega) (by omega) (by omega)).mono ?_
      rintro e w3 ⟨⟨A', m, c, rfl, hown⟩, hb3⟩
      have HO := Lib.hid hown
      have HB3 := Lib.hid (below_up HB2.out hb3)
      clear hb3 hown
      go_wp2_with fail
      refine (joined_any _ 1 1 _ [partL l at_ (at_ + n)] rfl (RdL.one HO.out.rd HO.out.1 _) (by simpa using partL_ok HM.out.1 _ _) (by simp; have := (partL_may HM.out at_ (at_ + n) (by omega) (by omega) (by omega)).2; omega) (by omega)).mono ?_
      rintro e w4 ⟨⟨A2, m2, c2, rfl, hown2⟩, hb4⟩
      have HO2 := Lib.hid hown2
      have HB4 := Lib.hid hb4
      clear hb4 hown2
      go_wp2_with fail
      go_ret2
      have hz := HB3.out.size
      rw [HE.out, HP.out]
      refine ⟨⟨_, _, _, rfl, ?_⟩, (HB3.out.alloc hz _).trans (HB4.out.mono (by simp; omega))⟩
      have := HO2.out.mono (base' := w.heap.size) (by simp; omega)
      simpa using this
  · have e1 := mayB_not hM
    have hE : pieceE l at_ n = 1 := by unfold pieceE; rw [if_pos hM]
    have hP : pieceL l at_ n = [] := by unfold pieceL; rw [if_neg (by rw [hE]; decide)]
    have HE := Lib.hid hE; have HP := Lib.hid hP
    clear hE hP
    go_enter Try.func20, Try.ntmps20
    go_wp2_with fail
    refine (may_any A len cap _ l hlen hr hm).mono ?_
    rintro e w1 ⟨rfl, hb⟩
    go_wp2_with fail
    go_ret2
    rw [HE.out, HP.out]
    exact ⟨⟨_, _, _, rfl, Own.nil _ _⟩, hb⟩
end Go.Proofs.Ytlgablhlpcmcaaa
