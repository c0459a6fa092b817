/-
  What space.New, Take, Free, Settle and Mark answer and leave, and the reference's Pick.
-/
import Derived.Test.YtobeppeadkoieaaBase
import Derived.Outline
import Derived.BigQuiet
import Derived.Deep.QuietTactic
import Derived.Deep.DeepCutAuto
import Derived.WalkLawsBesides
import Derived.Handy
namespace Go.Proofs.Ytobeppeadkoieaa
open Go.RowKit
theorem mty : MapTy Try.prog 51 3 4 := ⟨by kernel_rfl, by kernel_rfl, by kernel_rfl, fun w => by kernel_rfl⟩
theorem info3 : (Try.prog.info? 3).map (fun i => (i.zero, i.size, i.bytes)) = some (some (.int .i64 0), 1, 8) := by kernel_rfl
/-- A space in memory: its struct at block sb, its maps at bu and bw. -/
structure Sp (w : World) (sb bu bw : Nat) (res : Int) (u wt : Int → Bool) (A : Option Addr) (c : Nat) (tk : List Int) (N : Nat) : Prop where
  c0 : w.cell? ⟨sb, 0, none⟩ = some (.int .i64 res)
  c1 : w.cell? ⟨sb, 1, none⟩ = some (.map (some bu))
  c2 : w.cell? ⟨sb, 2, none⟩ = some (.map (some bw))
  c3 : w.cell? ⟨sb, 3, none⟩ = some (.slice A tk.length c)
  f3 : w.frozen? ⟨sb, 3, none⟩ = false
  hu : SetM w Try.prog 3 4 bu N u
  hw : SetM w Try.prog 3 4 bw N wt
  row : OwnI w (sb+1) A tk.length c tk
  l1 : bu < bw
  l2 : bw < sb
  lt : sb < w.heap.size
theorem Mark_any (w : World) (sb bu bw : Nat) (res : Int) (u wt : Int → Bool) (A : Option Addr) (c : Nat) (tk : List Int) (N : Nat) (h : Sp w sb bu bw res u wt A c tk N) :
    Calls Try.prog 12 #[.pointer (some ⟨sb, 0, none⟩)] w fun e w' => e = .returned (.int .i64 tk.length) ∧ w = w' := by
  obtain ⟨c0, c1, c2, c3, f3, hu, hw, row, l1, l2, lt⟩ := h
  clear hu hw row
  go_enter Try.func12, Try.ntmps12
  go_wp2_with fail
  go_ret
  exact ⟨rfl, rfl⟩
theorem pick_tmod (x n : Int) (h : 1 ≤ n) : (x.tmod n < 0 → x.tmod n + n = x % n) ∧ (0 ≤ x.tmod n → x.tmod n = x % n) := by
  have h1 := Int.mul_tdiv_add_tmod x n
  have h2 : x.tmod n < n := Int.tmod_lt_of_pos x (by omega)
  have h3 : -n < x.tmod n := by
    by_cases hx : 0 ≤ x
    · have := Int.tmod_nonneg n hx; omega
    · have h4 := Int.tmod_lt_of_pos (-x) (show 0 < n by omega)
      rw [Int.neg_tmod] at h4
      omega
  generalize hr : x.tmod n = r at *
  generalize x.tdiv n = q at *
  constructor
  · intro hneg
    have e : x = (r + n) + n * (q - 1) := by rw [← h1, Int.mul_sub]; omega
    rw [e, Int.add_mul_emod_self_left, Int.emod_eq_of_lt (by omega) (by omega)]
  · intro hpos
    have e : x = r + n * q := by omega
    rw [e, Int.add_mul_emod_self_left, Int.emod_eq_of_lt hpos h2]
theorem Pick_any (x n : Int) (w : World) (hn : 1 ≤ n) (hn1 : n ≤ 9223372036854775807) (x0 : -9223372036854775808 ≤ x) (x1 : x ≤ 9223372036854775807) :
    Calls Try.prog 6 #[.int .i64 x, .int .i64 n] w fun e w' => e = .returned (.int .i64 (x % n)) ∧ w = w' := by
  have H := Lib.hid (pick_tmod x n hn)
  have hlt := Int.emod_lt_of_pos x (show 0 < n by omega)
  by_cases hx : 0 ≤ x
  · have h0 := Int.emod_nonneg x (show n ≠ 0 by omega)
    go_enter Try.func6, Try.ntmps6
    go_wp2_with fail
    go_ret
    exact ⟨rfl, rfl⟩
  · have h3 : -n < x.tmod n := by
      have h4 := Int.tmod_lt_of_pos (-x) (show 0 < n by omega)
      rw [Int.neg_tmod] at h4
      omega
    have h5 : x.tmod n < n := Int.tmod_lt_of_pos x (by omega)
    clear hlt
    by_cases hr : x.tmod n < 0
    · have E := Lib.hid (H.out.1 hr)
      go_enter Try.func6, Try.ntmps6
      go_wp2_with fail
      go_ret
      exact ⟨ret_int E.out, rfl⟩
    · have E := Lib.hid (H.out.2 (by omega))
      go_enter Try.func6, Try.ntmps6
      go_wp2_with fail
      go_ret
      exact ⟨ret_int E.out, rfl⟩

end Go.Proofs.Ytobeppeadkoieaa
