/-
  That the document's example holds (awake).
-/
import Derived.Test.YtobeppeadkoieaaWalkc
namespace Go.Proofs.Ytobeppeadkoieaa
open Go.RowKit
theorem one_upd (i : Int) (h0 : 1 ≤ i) (h1 : i < 2) : upd (fun _ => false) 1 true i = true ∨ (fun _ => false : Int → Bool) i = true := by
  obtain rfl : i = 1 := by omega
  simp [upd]
set_option maxRecDepth 100000 in
theorem awake_any (w : World) : Calls Try.prog 8 #[] w fun e w' => e = .returned (.bool true) ∧ Below w.heap.size w w' := by
  go_enter Try.func8, Try.ntmps8
  go_wp2_with fail
  refine (New_any _ 1 (by omega) (by omega)).mono ?_
  rintro e w1 ⟨⟨sb, bu, bw, rfl, hlo, hS⟩, hb⟩
  have HS := Lib.hid hS
  have HB := Lib.hid hb
  clear hS hb
  go_wp2_with fail
  refine (Take_any _ sb bu bw 1 _ _ _ _ _ _ HS.out 1 (by omega) (by omega) (by omega) (by simp) (by simp) (fun i h0 h1 => by omega) (by omega) (by simp)).mono ?_
  rintro e w2 ⟨rfl, ⟨A2, c2, hS, _⟩, hb⟩
  have HS2 := Lib.hid hS
  have HB2 := Lib.hid (HB.out.trans (hb.mono hlo))
  clear hS hb HS HB
  go_wp2_with fail
  refine (Take_any _ sb bu bw 1 _ _ _ _ _ _ HS2.out 2 (by omega) (by omega) (by omega) (by simp [upd]) (by simp) (fun i h0 h1 => one_upd i h0 h1) (by omega) (by simp)).mono ?_
  rintro e w3 ⟨rfl, ⟨A3, c3, hS, _⟩, hb⟩
  have HS3 := Lib.hid hS
  have HB3 := Lib.hid (HB2.out.trans (hb.mono hlo))
  clear hS hb HS2 HB2
  go_wp2_with fail
  refine (Free_yes _ sb bu bw 1 _ _ _ _ _ _ HS3.out 1 ⟨by omega, by omega⟩ (by simp [upd]) (by omega)).mono ?_
  rintro e w4 ⟨rfl, hS, hb, _⟩
  have HS4 := Lib.hid hS
  have HB4 := Lib.hid (HB3.out.trans (hb.mono hlo))
  clear hS hb HS3 HB3
  go_wp2_with fail
  refine (Take_any _ sb bu bw 1 _ _ _ _ _ _ HS4.out 3 (by omega) (by omega) (by omega) (by simp [upd]) (by simp [upd]) (fun i h0 h1 => by
    rcases (show i = 1 ∨ i = 2 by omega) with rfl | rfl <;> simp [upd]) (by omega) (by simp)).mono ?_
  rintro e w5 ⟨rfl, ⟨A5, c5, hS, _⟩, hb⟩
  have HS5 := Lib.hid hS
  have HB5 := Lib.hid (HB4.out.trans (hb.mono hlo))
  clear hS hb HS4 HB4
  go_wp2_with fail
  refine (Settle_any _ sb bu bw 1 _ _ _ _ _ _ HS5.out).mono ?_
  rintro e w6 ⟨rfl, hS, hb, _⟩
  have HS6 := Lib.hid hS
  have HB6 := Lib.hid (HB5.out.trans (hb.mono hlo))
  clear hS hb HS5 HB5
  go_wp2_with fail
  refine (Take_any _ sb bu bw 1 _ _ _ _ _ _ HS6.out 1 (by omega) (by omega) (by omega) (by simp [upd]) (by simp) (fun i h0 h1 => by omega) (by omega) (by simp)).mono ?_
  rintro e w7 ⟨rfl, ⟨A7, c7, hS, _⟩, hb⟩
  have HS7 := Lib.hid hS
  have HB7 := Lib.hid (HB6.out.trans (hb.mono hlo))
  clear hS hb HS6 HB6
  go_wp2_with fail
  refine (Mark_any _ sb bu bw 1 _ _ _ _ _ _ HS7.out).mono ?_
  rintro e w8 ⟨rfl, rfl⟩
  go_wp2_with fail
  go_ret
  exact ⟨rfl, HB7.out⟩
end Go.Proofs.Ytobeppeadkoieaa
