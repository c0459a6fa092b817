/-
  That the laws EolBack and EolBetween return true, for all bytes and every place.
-/
import Derived.Test.YtnfipflodhnbhaaWalkb
namespace Go.Proofs.Ytnfipflodhnbhaa
open Go.RowKit
set_option maxHeartbeats 1600000 in
set_option maxRecDepth 100000 in
theorem back_walk (A : Option Addr) (len cap : Nat) (at_ : Int) (w : World) (l : List Int) (hlen : l.length = len) (hB : Byt l) (hr : RdB w w.heap.size A l) (hcap : len ≤ cap) (hm : cap ≤ 9223372036854775807) (a0 : -9223372036854775808 ≤ at_) (a1 : at_ ≤ 9223372036854775807) :
    Calls Try.prog 3 #[.slice A len cap, .int .i64 at_] w fun e w' => e = .returned (.bool true) ∧ Below w.heap.size w w' := by
  have H := Lib.hid hlen; have HR := Lib.hid hr; have HB := Lib.hid hB
  clear hlen hr hB
  by_cases hbig : 3000 < len
  · go_enter Try.func3, Try.ntmps3
    go_wp2_with fail
    refine (awake_any _).mono ?_
    rintro e w1 ⟨rfl, hb⟩
    have HB1 := Lib.hid hb
    clear hb
    go_wp2_with fail
    refine (awake_any _).mono ?_
    rintro e w2 ⟨rfl, hb⟩
    have HB2 := Lib.hid (below_up HB1.out hb)
    clear hb
    go_wp2_with fail
    go_ret
    exact ⟨rfl, HB2.out⟩
  · have hle : len ≤ 3000 := by omega
    have hcn : cnt l ≤ len := by rw [← H.out]; exact cnt_le l
    clear hbig
    go_enter Try.func3, Try.ntmps3
    go_wp2_with fail
    refine (awake_any _).mono ?_
    rintro e w1 ⟨rfl, hb⟩
    have HB1 := Lib.hid hb
    have HR1 := Lib.hid (HR.out.up hb)
    clear hb
    go_wp2_with fail
    refine (Count_any A len cap _ l H.out HB.out HR1.out).mono ?_
    rintro e w2 ⟨rfl, hb⟩
    have HB2 := Lib.hid (below_up HB1.out hb)
    have HR2 := Lib.hid (HR1.out.up hb)
    clear hb
    go_wp2_with fail
    go_loopw [6] (fun i wr => ∃ k : Nat, k ≤ cnt l + 1 ∧ i = .int .i64 (k : Nat) ∧ Below w2.heap.size w2 wr) (fun i _ => cnt l + 1 - (intOf i).toNat)
    case atStart => exact ⟨0, Nat.zero_le _, rfl, Below.refl _ _⟩
    case round =>
      obtain ⟨k, hk, rfl, hb⟩ := hrel
      have HBel := Lib.hid hb
      have HR3 := Lib.hid (HR2.out.up hb)
      clear hb
      by_cases hlt : k ≤ cnt l
      · by_cases hk0 : k = 0
        · subst hk0
          clear hk
          go_wp2_with fail
          refine (Start_zero A len cap _).mono ?_
          rintro e w3 ⟨rfl, rfl⟩
          go_wp2_with fail
          refine (Line_yes A len cap 0 _ l H.out HB.out HR3.out (by omega) hcap hm).mono ?_
          rintro e w4 ⟨rfl, hb⟩
          have hx : cnt (l.take 0) = 0 := rfl
          rw [hx]
          have HB4 := Lib.hid (below_up HBel.out hb)
          clear hb hx
          go_wp2_with fail
          go_roundw
          case rel => exact ⟨1, by omega, rfl, HB4.out⟩
          case measure => simp [intOf]
        · obtain ⟨j, rfl⟩ : ∃ j, k = j + 1 := ⟨k - 1, by omega⟩
          clear hk0
          go_wp2_with fail
          refine (Start_yes A len cap j _ _ l H.out HR3.out (by omega) (by omega) (by omega)).mono ?_
          rintro e w3 ⟨⟨p, hp, rfl⟩, rfl⟩
          have hpl := hp.lt
          have hp1 : p + 1 ≤ len := by have := H.out; omega
          have hs := hp.succ
          obtain ⟨b, off, rfl, hbb, hcell⟩ := HR3.out p 10 hp.1
          have hS := Lib.hid hs; have HP := Lib.hid hp
          have hj3 : j ≤ 3000 := by omega
          clear hp hpl hs
          go_wp2_with fail
          refine (Line_yes _ len cap (p+1) _ l H.out HB.out HR3.out (by omega) hcap hm).mono ?_
          rintro e w4 ⟨rfl, hb⟩
          rw [hS.out]
          have hc4 := (hb.cell (p := ⟨b, off + p, none⟩) hbb).trans hcell
          have HR4 := Lib.hid (HR3.out.up hb)
          have HB4 := Lib.hid (below_up HBel.out hb)
          have hb4 : b < w4.heap.size := by have := hb.size; omega
          clear hb hcell
          go_wp2_with fail
          refine (Line_yes _ len cap p _ l H.out HB.out HR4.out (by omega) hcap hm).mono ?_
          rintro e w5 ⟨rfl, hb⟩
          rw [HP.out.2]
          have hc5 := (hb.cell (p := ⟨b, off + p, none⟩) hb4).trans hc4
          have HR5 := Lib.hid (HR4.out.up hb)
          have HB5 := Lib.hid (below_up HB4.out hb)
          clear hb hc4
          go_wp2_with fail
          refine (Nth_yes _ len cap j _ l H.out HR5.out (by omega) HP.out.lt_cnt).mono ?_
          rintro e w6 ⟨⟨q, hq, rfl⟩, rfl⟩
          obtain rfl := hq.uniq HP.out
          clear hq
          go_wp2_with fail
          go_roundw
          case rel => exact ⟨j+2, by omega, by go_num, HB5.out⟩
          case measure => simp [intOf]; omega
      · obtain rfl : k = cnt l + 1 := by omega
        have HB3 := Lib.hid (below_up HB2.out HBel.out)
        clear hlt hk
        go_wp2_with fail
        refine (Start_no A len cap (cnt l) _ _ l H.out HR3.out (by omega) (Nat.le_refl _) (by omega) (by omega)).mono ?_
        rintro e w3 ⟨rfl, rfl⟩
        by_cases hc : at_ < 0 ∨ (len : Int) < at_
        · go_wp2_with fail
          all_goals
            go_ret
            exact ⟨rfl, HB3.out⟩
        · obtain ⟨α, rfl⟩ := Int.eq_ofNat_of_zero_le (show 0 ≤ at_ by omega)
          have hα : α ≤ len := by omega
          clear hc
          go_wp2_with fail
          refine (Line_yes A len cap α _ l H.out HB.out HR3.out hα hcap hm).mono ?_
          rintro e w4 ⟨rfl, hb⟩
          have HR4 := Lib.hid (HR3.out.up hb)
          have HB4 := Lib.hid (below_up HB3.out hb)
          have hcl := cnt_take_le l α
          clear hb
          obtain ⟨L, hL⟩ : ∃ L, L = cnt (l.take α) := ⟨_, rfl⟩
          rw [← hL]
          rw [← hL] at hcl
          have HL := Lib.hid hL
          clear hL
          have hfin : ∀ (s : Int), s ≤ α → Calls Try.prog 9 #[.slice A len cap, .int .i64 ((L : Int) + 1)] w4 fun e w' => ((∃ p : Nat, (α : Int) < p + 1 ∧ e = .returned (.tuple #[.int .i64 ((p : Int) + 1), .int .i64 0])) ∨ (L = cnt l ∧ e = .returned (.tuple #[.int .i64 0, .int .i64 2]))) ∧ w4 = w' := by
            intro s _
            by_cases hlast : L < cnt l
            · refine (Start_yes A len cap L _ w4 l H.out HR4.out (by omega) hlast rfl).mono fun e w' ⟨⟨p, hp, he⟩, hw⟩ => ⟨.inl ⟨p, ?_, he⟩, hw⟩
              have := (hp.ahead (at_ := α))
              have hh := HL.out
              omega
            · exact (Start_no A len cap L _ w4 l H.out HR4.out (by omega) (by omega) (by omega) rfl).mono fun e w' ⟨he, hw⟩ => ⟨.inr ⟨by omega, he⟩, hw⟩
          have HF := Lib.hid hfin
          clear hfin
          by_cases hL0 : L = 0
          · have HL0 := Lib.hid hL0
            subst hL0
            go_wp2_with fail
            refine (Start_zero A len cap _).mono ?_
            rintro e w5 ⟨rfl, rfl⟩
            go_wp2_with fail
            refine (HF.out 0 (by omega)).mono ?_
            rintro e w6 ⟨⟨p, hp, rfl⟩ | ⟨hl, rfl⟩, rfl⟩
            · go_wp2_with fail
              go_ret
              exact ⟨rfl, HB4.out⟩
            · have f1 : ((0 : Int) == (cnt l : Nat)) = true := by simp; omega
              have HX := Lib.hid hl
              clear hl
              go_wp2_with fail
              go_ret
              exact ⟨rfl, HB4.out⟩
          · obtain ⟨j, rfl⟩ : ∃ j, L = j + 1 := ⟨L - 1, by omega⟩
            clear hL0
            go_wp2_with fail
            refine (Start_yes A len cap j _ _ l H.out HR4.out (by omega) (by omega) (by omega)).mono ?_
            rintro e w5 ⟨⟨q, hq, rfl⟩, rfl⟩
            have hqα : (q : Int) + 1 ≤ α := by
              have := hq.ahead (at_ := α)
              have hh := HL.out
              omega
            clear hq
            go_wp2_with fail
            refine (HF.out 0 (by omega)).mono ?_
            rintro e w6 ⟨⟨p, hp, rfl⟩ | ⟨hl, rfl⟩, rfl⟩
            · go_wp2_with fail
              go_ret
              exact ⟨rfl, HB4.out⟩
            · have f1 : ((j : Int) + 1 == (cnt l : Nat)) = true := by simp; omega
              have HX := Lib.hid hl
              clear hl
              go_wp2_with fail
              go_ret
              exact ⟨rfl, HB4.out⟩
end Go.Proofs.Ytnfipflodhnbhaa
