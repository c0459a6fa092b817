/-
  For TailPlays: Pick, Free.
-/
import Derived.Test.YtlplhllcohoeaaaOpens
namespace Go.Proofs.Ytlplhllcohoeaaa
open Go.RowKit
theorem pick_tmod (x n : Int) (h : 1 ≤ n) : (x.tmod n < 0 → x.tmod n + n = x % n) ∧ (0 ≤ x.tmod n → x.tmod n = x % n) := by
  have h1 := Int.mul_tdiv_add_tmod x n
  have h2 : x.tmod n < n := Int.tmod_lt_of_pos x (by omega)
  have h3 : -n < x.tmod n := by
    by_cases hx : 0 ≤ x
    · have := Int.tmod_nonneg n hx; omega
    · have h4 := Int.tmod_lt_of_pos (-x) (show 0 < n by omega)
      rw [Int.neg_tmod] at h4
      omega
  generalize hr : x.tmod n = r at *
  generalize x.tdiv n = q at *
  constructor
  · intro hneg
    have e : x = (r + n) + n * (q - 1) := by rw [← h1, Int.mul_sub]; omega
    rw [e, Int.add_mul_emod_self_left, Int.emod_eq_of_lt (by omega) (by omega)]
  · intro hpos
    have e : x = r + n * q := by omega
    rw [e, Int.add_mul_emod_self_left, Int.emod_eq_of_lt hpos h2]
theorem Pick_any (x n : Int) (w : World) (hn : 1 ≤ n) (hn1 : n ≤ 9223372036854775807) (x0 : -9223372036854775808 ≤ x) (x1 : x ≤ 9223372036854775807) :
    Calls Try.prog 20 #[.int .i64 x, .int .i64 n] w fun e w' => e = .returned (.int .i64 (x % n)) ∧ w = w' := by
  have H := Lib.hid (pick_tmod x n hn)
  have hlt := Int.emod_lt_of_pos x (show 0 < n by omega)
  by_cases hx : 0 ≤ x
  · have h0 := Int.emod_nonneg x (show n ≠ 0 by omega)
    go_enter Try.func20, Try.ntmps20
    go_wp2_with fail
    go_ret
    exact ⟨rfl, rfl⟩
  · have h3 : -n < x.tmod n := by
      have h4 := Int.tmod_lt_of_pos (-x) (show 0 < n by omega)
      rw [Int.neg_tmod] at h4
      omega
    have h5 : x.tmod n < n := Int.tmod_lt_of_pos x (by omega)
    clear hlt
    by_cases hr : x.tmod n < 0
    · have E := Lib.hid (H.out.1 hr)
      go_enter Try.func20, Try.ntmps20
      go_wp2_with fail
      go_ret
      exact ⟨ret_int E.out, rfl⟩
    · have E := Lib.hid (H.out.2 (by omega))
      go_enter Try.func20, Try.ntmps20
      go_wp2_with fail
      go_ret
      exact ⟨ret_int E.out, rfl⟩


section
variable {db mb tb : Nat} {d : Dv} {lo : Int} {N : Nat} {S : Nat → Prop} {F : Option Nat} {Ap : Option Addr} {np cp : Nat} {ps : List (Int × Value)}
theorem Free_any (w : World) (h : Dk w db mb d lo N S F Ap np cp ps) (h1 : 0 ≤ d.room ∧ d.room ≤ 1099511627776) :
    Calls Try.prog 36 #[.pointer (some ⟨db, 0, none⟩)] w fun e w' => e = .returned (.int .i64 (max 0 (d.room - d.sum))) ∧ Below w.heap.size w w' := by
  obtain ⟨c0, _⟩ := h.cells
  have hs0 := h.sum0
  have hdb := h.lt _ h.sd
  have HS := sum_any w.drew (h.drewN 1)
  have i1 : IntKind.i64.wrap (d.room - d.sum) = d.room - d.sum := IntWalk.i64_in _ (by omega)
  clear h
  generalize d.sum = s at *
  generalize d.room = r at *
  by_cases hp : 0 ≤ r - s
  · rw [show max 0 (r - s) = r - s by omega]
    go_enter Try.func36, Try.ntmps36
    go_wp2_with fail
    go_region_held3 (fun w' => w'.cell? ⟨db, 0, none⟩ = some (.int .i64 r)) (first | go_keep | (exact (hp1.cell (p := ⟨db, 0, none⟩) hdb).trans c0))
      ((go_at_call_of 35 (Value.pointer (some ⟨db, 0, Option.none⟩)); refine HS.mono ?_; rintro e wp1 ⟨rfl, hp1⟩))
    have HP := Lib.hid hp1
    clear hp1 HS
    go_wp2_with fail
    all_goals
      go_ret
      exact ⟨by first | rfl | exact ret_int (by omega) | exact ret_int (by split <;> omega), (belowDrewN (Below.refl _ _) 1).trans HP.out⟩
  · rw [show max 0 (r - s) = 0 by omega]
    go_enter Try.func36, Try.ntmps36
    go_wp2_with fail
    go_region_held3 (fun w' => w'.cell? ⟨db, 0, none⟩ = some (.int .i64 r)) (first | go_keep | (exact (hp1.cell (p := ⟨db, 0, none⟩) hdb).trans c0))
      ((go_at_call_of 35 (Value.pointer (some ⟨db, 0, Option.none⟩)); refine HS.mono ?_; rintro e wp1 ⟨rfl, hp1⟩))
    have HP := Lib.hid hp1
    clear hp1 HS
    go_wp2_with fail
    all_goals
      go_ret
      exact ⟨by first | rfl | exact ret_int (by omega) | exact ret_int (by split <;> omega), (belowDrewN (Below.refl _ _) 1).trans HP.out⟩
/-- Back: a bad length, the length that it has, a refusal by the disk, and a cut. -/
theorem Back_bad (w : World) (n : Nat) (x : Int) (hT : TlAt w tb db n) (hx : x < 0 ∨ (n : Int) < x) : Calls Try.prog 18 #[.pointer (some ⟨tb, 0, none⟩), .int .i64 x] w fun e w' => e = .returned (.int .i64 2) ∧ w = w' := by
  have c1 := hT.c1
  clear hT
  rcases hx with hx | hx
  · go_enter Try.func18, Try.ntmps18
    go_wp2_with fail
    go_ret
    exact ⟨rfl, rfl⟩
  · have h0 : ¬ x < 0 := by omega
    go_enter Try.func18, Try.ntmps18
    go_wp2_with fail
    go_ret
    exact ⟨rfl, rfl⟩
theorem Back_same (w : World) (n : Nat) (hT : TlAt w tb db n) : Calls Try.prog 18 #[.pointer (some ⟨tb, 0, none⟩), .int .i64 n] w fun e w' => e = .returned (.int .i64 0) ∧ w = w' := by
  have c1 := hT.c1
  clear hT
  go_enter Try.func18, Try.ntmps18
  go_wp2_with fail
  go_ret
  exact ⟨rfl, rfl⟩
theorem Back_err (w : World) (n x : Nat) (hT : TlAt w tb db n) (hx : x < n) (z : Int) (hz : z ≠ 0) (Q : World → Prop)
    (HW : Calls Try.prog 27 #[.pointer (some ⟨db, 0, none⟩), .string tl, .int .i64 x] w fun e w' => e = .returned (.int .i64 z) ∧ Q w') :
    Calls Try.prog 18 #[.pointer (some ⟨tb, 0, none⟩), .int .i64 x] w fun e w' => e = .returned (.int .i64 z) ∧ Q w' := by
  have c0 := hT.c0
  have c1 := hT.c1
  clear hT
  have HHW := Lib.hid HW
  clear HW
  go_enter Try.func18, Try.ntmps18
  go_wp2_with fail
  refine HHW.out.mono ?_
  rintro e w1 ⟨rfl, hq⟩
  have HQ := Lib.hid hq
  clear hq HHW c0 c1
  go_wp2_with fail
  go_ret
  exact ⟨rfl, HQ.out⟩
theorem Back_cut (w : World) (n x : Nat) (hT : TlAt w tb db n) (hx : x < n) (Q : World → Prop)
    (HW : Calls Try.prog 27 #[.pointer (some ⟨db, 0, none⟩), .string tl, .int .i64 x] w fun e w' => e = .returned (.int .i64 0) ∧ Q w' ∧ TlAt w' tb db n) :
    Calls Try.prog 18 #[.pointer (some ⟨tb, 0, none⟩), .int .i64 x] w fun e w' => e = .returned (.int .i64 0) ∧ ∃ w1, Q w1 ∧ w' = w1.setCell ⟨tb, 1, none⟩ (.int .i64 x) ∧ TlAt w' tb db x := by
  have c0 := hT.c0
  have c1 := hT.c1
  clear hT
  have HHW := Lib.hid HW
  clear HW
  go_enter Try.func18, Try.ntmps18
  go_wp2_with fail
  refine HHW.out.mono ?_
  rintro e w1 ⟨rfl, hq, ht⟩
  have HQ := Lib.hid hq
  have HT := Lib.hid ht
  have d1 := ht.c1
  have f1 := ht.f1
  clear hq ht HHW c0 c1
  go_wp2_with fail
  go_ret
  exact ⟨rfl, w1, HQ.out, rfl, HT.out.set _⟩
/-- The tail's Sync over the disk's: 'no such file' (6) counts as done. -/
theorem TSync_walk (w : World) (n : Int) (hT : TlAt w tb db n) (z : Int) (Q : World → Prop)
    (HW : Calls Try.prog 32 #[.pointer (some ⟨db, 0, none⟩), .string tl] w fun e w' => e = .returned (.int .i64 z) ∧ Q w') :
    Calls Try.prog 19 #[.pointer (some ⟨tb, 0, none⟩)] w fun e w' => e = .returned (.int .i64 (if z = 6 then 0 else z)) ∧ Q w' := by
  have c0 := hT.c0
  clear hT
  have HHW := Lib.hid HW
  clear HW
  by_cases hz : z = 6
  · subst hz
    go_enter Try.func19, Try.ntmps19
    go_wp2_with fail
    refine HHW.out.mono ?_
    rintro e w1 ⟨rfl, hq⟩
    have HQ := Lib.hid hq
    clear hq HHW c0
    go_wp2_with fail
    go_ret
    exact ⟨rfl, HQ.out⟩
  · rw [if_neg hz]
    go_enter Try.func19, Try.ntmps19
    go_wp2_with fail
    refine HHW.out.mono ?_
    rintro e w1 ⟨rfl, hq⟩
    have HQ := Lib.hid hq
    clear hq HHW c0
    go_wp2_with fail
    go_ret
    exact ⟨rfl, HQ.out⟩
end
end Go.Proofs.Ytlplhllcohoeaaa
