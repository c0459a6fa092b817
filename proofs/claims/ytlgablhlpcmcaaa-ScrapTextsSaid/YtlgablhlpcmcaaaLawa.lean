/-
  That the law ScrapFinds returns true, for every list and every place.
-/
import Derived.Test.YtlgablhlpcmcaaaWalkj
namespace Go.Proofs.Ytlgablhlpcmcaaa
open Go.RowKit
theorem partL_before {l : List S} (h : Ok l) (f t : Int) (hf : tot l ≤ f) : partL l f t = [] := by
  induction l generalizing f t with
  | nil => rfl
  | cons a l ih =>
    have ha := h a (by simp)
    have := tot_nonneg l h.tail
    simp only [tot] at hf
    rw [partL, bit_no (by omega), ih h.tail _ _ (by omega)]; rfl
theorem partL_behind {l : List S} (h : Ok l) (f t : Int) (ht : t ≤ 0) : partL l f t = [] := by
  induction l generalizing f t with
  | nil => rfl
  | cons a l ih =>
    have ha := h a (by simp)
    unfold okS at ha
    rw [partL, bit_no (by omega), ih h.tail _ _ (by omega)]; rfl
theorem split_at {l : List S} {k : Nat} {s : S} (hs : l[k]? = some s) : l = l.take k ++ s :: l.drop (k+1) := by
  obtain ⟨hk, rfl⟩ := List.getElem?_eq_some_iff.1 hs
  rw [← List.drop_eq_getElem_cons hk, List.take_append_drop]
theorem part_finds {l : List S} {at_ : Int} {k : Nat} {s : S} (h : Ok l) (hF : Finds l at_ k s) : partL l at_ (at_ + 1) = [⟨s.src, s.at_ + at_ - tot (l.take k), 1⟩] := by
  obtain ⟨hs, h1, h2⟩ := hF
  conv => lhs; rw [split_at hs]
  rw [partL_append, partL_before (h.take k) _ _ h1, partL, bit_yes ⟨by omega, by omega, by omega⟩ rfl rfl, partL_behind (h.drop (k+1)) _ _ (by omega), List.nil_append, List.append_nil]
  rw [if_neg (by omega)]
  have e : (if s.len < at_ + 1 - tot (l.take k) then s.len else at_ + 1 - tot (l.take k)) = at_ + 1 - tot (l.take k) := by rw [if_neg (by omega)]
  rw [e]
  congr 2 <;> omega
theorem Rd.take {w : World} {B : Nat} {A : Option Addr} {l : List S} (h : Rd w B A l) (k : Nat) : Rd w B A (l.take k) := by
  intro j s hs
  rw [List.getElem?_take] at hs
  split at hs
  · exact h j s hs
  · cases hs

theorem finds_walk (A : Option Addr) (len cap : Nat) (at_ : Int) (w : World) (l : List S) (hlen : l.length = len) (hr : Rd w w.heap.size A l) (hm : len ≤ 9223372036854775807) (hcap : len ≤ cap) (hcap2 : cap ≤ 9223372036854775807) (b0 : -9223372036854775808 ≤ at_) (b1 : at_ ≤ 9223372036854775807) :
    Calls Try.prog 8 #[.slice A len cap, .int .i64 at_] w fun e w' => e = .returned (.bool true) ∧ Below w.heap.size w w' := by
  by_cases hy : MayP l ∧ 0 ≤ at_ ∧ at_ < tot l
  · obtain ⟨hM, a0, a1⟩ := hy
    have t1 := hM.2
    have hE : pieceE l at_ 1 = 0 := by unfold pieceE; rw [if_neg (by simpa using hM), if_neg (by omega)]
    have hP : pieceL l at_ 1 = joinL (partL l at_ (at_ + 1)) := by unfold pieceL; rw [if_pos hE]
    have H := Lib.hid hlen; have HR := Lib.hid hr; have HM := Lib.hid hM; have HE := Lib.hid hE; have HP := Lib.hid hP
    clear hlen hr hM hE hP
    go_enter Try.func8, Try.ntmps8
    go_wp2_with fail
    refine (Find_yes A len cap at_ _ l H.out HR.out hm HM.out a0 a1).mono ?_
    rintro e w1 ⟨⟨k, s, hF, rfl⟩, hb⟩
    have HB1 := Lib.hid hb
    have HR1 := Lib.hid (HR.out.up hb)
    have hk : k < len := by have := (List.getElem?_eq_some_iff.1 hF.1).1; have := H.out; omega
    have f1 := hF.2.1
    have f2 := hF.2.2
    obtain ⟨o1, o2, o3, o4, o5⟩ := HM.out.1.at_ hF.1
    have HF := Lib.hid hF
    clear hb hF
    go_wp2_with fail
    refine (Piece_any A len cap at_ 1 _ l H.out HR1.out hm b0 b1 (by omega) (by omega)).mono ?_
    rintro e w2 ⟨⟨A2, m2, c2, rfl, hown⟩, hb⟩
    rw [HP.out, part_finds HM.out.1 HF.out] at hown
    rw [HE.out]
    have hown : Own w2 w1.heap.size A2 m2 c2 [⟨s.src, s.at_ + at_ - tot (l.take k), 1⟩] := hown
    have hm2 : m2 = 1 := hown.1.symm
    subst hm2
    have HB2 := Lib.hid (below_up HB1.out hb)
    have HR2 := Lib.hid (HR1.out.up hb)
    have HO := Lib.hid hown
    clear hb hown
    go_wp2_with fail
    refine (awake_any _).mono ?_
    rintro e w3 ⟨rfl, hb⟩
    have HB3 := Lib.hid (below_up HB2.out hb)
    have HR3 := Lib.hid (HR2.out.up hb)
    have HRO := Lib.hid (HO.out.rd.up hb)
    clear hb
    have p0 := tot_nonneg _ (HM.out.1.take k)
    have hSz : sizeL (l.take k) = tot (l.take k) := if_pos (mayP_take HM.out k)
    have HSz := Lib.hid hSz
    clear hSz
    go_wp2_with fail
    refine (Size_any A k cap _ (l.take k) (by have := H.out; simp; omega) (HR3.out.take k) (by omega)).mono ?_
    rintro e w4 ⟨rfl, hb⟩
    rw [HSz.out]
    have HB4 := Lib.hid (below_up HB3.out hb)
    obtain ⟨bb, off, rfl, hbb, c0, c1, c2⟩ := HR3.out.up hb k s HF.out.1
    obtain ⟨b5, off5, rfl, hb5, d0, d1, d2⟩ := HRO.out.up hb 0 _ rfl
    simp only [Nat.zero_mul, Nat.add_zero] at d0 d1 d2
    clear hb
    go_wp2_with fail
    have W1 : IntKind.i64.wrap (s.at_ + at_) = s.at_ + at_ := IntWalk.i64_in _ (by omega)
    have W2 : IntKind.i64.wrap (s.at_ + at_ - tot (l.take k)) = s.at_ + at_ - tot (l.take k) := IntWalk.i64_in _ (by omega)
    go_quiet (fail)
    go_wp2_with fail
    go_ret
    exact ⟨rfl, belowDrewN HB4.out _⟩
  · have hE : pieceE l at_ 1 ≠ 0 := by
      unfold pieceE
      split
      · decide
      · split
        · decide
        · rename_i h1 h2
          exfalso
          have h1' : MayP l := by simpa using h1
          exact hy ⟨h1', by omega, by omega⟩
    have H := Lib.hid hlen; have HR := Lib.hid hr; have HY := Lib.hid hy
    obtain ⟨E, hEE⟩ : ∃ E, E = pieceE l at_ 1 := ⟨_, rfl⟩
    rw [← hEE] at hE
    have hE1 : (E == 0) = false := by simpa using hE
    have HEE := Lib.hid hEE
    clear hlen hr hy hEE hE
    go_enter Try.func8, Try.ntmps8
    go_wp2_with fail
    refine (Find_no A len cap at_ _ l H.out HR.out hm HY.out b0 b1).mono ?_
    rintro e w1 ⟨rfl, hb⟩
    have HB1 := Lib.hid hb
    have HR1 := Lib.hid (HR.out.up hb)
    clear hb
    go_wp2_with fail
    refine (Piece_any A len cap at_ 1 _ l H.out HR1.out hm b0 b1 (by omega) (by omega)).mono ?_
    rintro e w2 ⟨⟨A2, m2, c2, rfl, hown⟩, hb⟩
    rw [← HEE.out]
    have HB2 := Lib.hid (below_up HB1.out hb)
    clear hb hown
    go_wp2_with fail
    refine (awake_any _).mono ?_
    rintro e w3 ⟨rfl, hb⟩
    have HB3 := Lib.hid (below_up HB2.out hb)
    clear hb
    go_wp2_with fail
    go_ret
    exact ⟨rfl, HB3.out⟩
end Go.Proofs.Ytlgablhlpcmcaaa
