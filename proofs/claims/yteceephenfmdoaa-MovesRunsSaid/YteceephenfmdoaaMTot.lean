/-
  How many steps a plan has: moves.Total, and the reference's.
-/
import Derived.Test.YteceephenfmdoaaMWrit
namespace Go.Proofs.Yteceephenfmdoaa
open Go.RowKit
/-- How many steps, as the machine counts them. -/
def totS (W : List WvV) : Int := W.foldl (fun n v => IntKind.i64.wrap (n + v.steps.length)) 0
theorem totS_next {W : List WvV} {k : Nat} {v : WvV} (h : W[k]? = some v) : totS (W.take (k + 1)) = IntKind.i64.wrap (totS (W.take k) + v.steps.length) := by
  unfold totS
  rw [Sc.take_snoc W k v h, List.foldl_append]; rfl
def sumS : List WvV → Nat
  | [] => 0
  | v :: W => v.steps.length + sumS W
theorem totS_sum : ∀ (W : List WvV) (n : Int), 0 ≤ n → n + sumS W ≤ 9223372036854775807 → W.foldl (fun n v => IntKind.i64.wrap (n + v.steps.length)) n = n + sumS W := by
  intro W
  induction W with
  | nil => intro n _ _; simp [sumS]
  | cons v W ih =>
    intro n h0 h1
    simp only [sumS] at h1 ⊢
    rw [List.foldl_cons, IntWalk.i64_in _ (by omega), ih _ (by omega) (by omega)]
    omega
theorem totS_eq {W : List WvV} (h : sumS W ≤ 9223372036854775807) : totS W = sumS W := by
  have := totS_sum W 0 (Int.le_refl _) (by omega)
  unfold totS
  omega
set_option maxRecDepth 100000 in
set_option maxHeartbeats 2000000 in
theorem MTotal_any (p : PlV) (w : World) (hP : PlOk w w.heap.size p) :
    Calls Try.prog 25 #[.agg p.cells] w fun e w' => e = .returned (.int .i64 (totS p.waves)) ∧ Below w.heap.size w w' := by
  obtain ⟨n, SA, sc, stash, WA, wq, waves⟩ := p
  unfold PlV.cells at *
  simp only at *
  have hb1 : Below w.heap.size w (w.alloc (.cells #[.int .i64 n, .slice SA stash.length sc, .slice WA waves.length wq] 32)) := (Below.refl _ _).alloc (Nat.le_refl _) _
  have HB := Lib.hid hb1
  have HP := Lib.hid hP
  have HNX := Lib.hid (fun (k : Nat) (v : WvV) (h : waves[k]? = some v) => totS_next h)
  have hwl : waves.length ≤ 9223372036854775807 := Nat.le_trans hP.wcap.1 hP.wcap.2
  have hbx : (w.alloc (.cells #[.int .i64 n, .slice SA stash.length sc, .slice WA waves.length wq] 32)).cell? ⟨w.heap.size, 2, none⟩ = some (.slice WA waves.length wq) := cell_new w _ 32 2
  have hlt0 : w.heap.size < (w.alloc (.cells #[.int .i64 n, .slice SA stash.length sc, .slice WA waves.length wq] 32)).heap.size := by simp
  clear hb1 hP
  go_enter Try.func25, Try.ntmps25
  go_wp2_with fail
  generalize hpb : w.heap.size = pb at *
  generalize w.alloc (.cells #[.int .i64 n, .slice SA stash.length sc, .slice WA waves.length wq] 32) = W1 at *
  go_loopw [3, 9] (fun s i wr => ∃ x : Nat, x ≤ waves.length ∧ i = .int .i64 x ∧ s = .int .i64 (totS (waves.take x)) ∧ wr = W1) (fun _ i _ => waves.length - (intOf i).toNat)
  case atStart => exact ⟨0, Nat.zero_le _, rfl, rfl, rfl⟩
  case round =>
    obtain ⟨x, hx, rfl, rfl, rfl⟩ := hrel
    by_cases hlt : x < waves.length
    · obtain ⟨v, hv⟩ := Sc.get_some waves x hlt
      obtain ⟨wb, woff, rfl, hwb, w0, hwv⟩ := (HP.out.wv.below HB.out (Nat.le_refl _)) x v hv
      have HVS := Lib.hid (HNX.out x v hv)
      obtain ⟨VA, vc, steps⟩ := v
      simp only at w0
      clear hv hwv
      go_wp2_with fail
      go_roundw
      case measure => simp [intOf]; omega
      case rel => exact ⟨x + 1, by omega, by go_num, by rw [HVS.out, IntWalk.i64_left], trivial⟩
    · obtain rfl : x = waves.length := by omega
      clear hlt
      rw [List.take_length]
      go_wp2_with fail
      go_ret
      exact ⟨rfl, (by first | exact HB.out | (rw [hpb]; exact HB.out))⟩
set_option maxRecDepth 100000 in
set_option maxHeartbeats 2000000 in
theorem RefTotal_any (p : PlV) (w : World) (hP : PlOk w w.heap.size p) :
    Calls Try.prog 28 #[.agg p.cells] w fun e w' => e = .returned (.int .i64 (totS p.waves)) ∧ Below w.heap.size w w' := by
  obtain ⟨n, SA, sc, stash, WA, wq, waves⟩ := p
  unfold PlV.cells at *
  simp only at *
  have hb1 : Below w.heap.size w (w.alloc (.cells #[.int .i64 n, .slice SA stash.length sc, .slice WA waves.length wq] 32)) := (Below.refl _ _).alloc (Nat.le_refl _) _
  have HB := Lib.hid hb1
  have HP := Lib.hid hP
  have HNX := Lib.hid (fun (k : Nat) (v : WvV) (h : waves[k]? = some v) => totS_next h)
  have hwl : waves.length ≤ 9223372036854775807 := Nat.le_trans hP.wcap.1 hP.wcap.2
  have hbx : (w.alloc (.cells #[.int .i64 n, .slice SA stash.length sc, .slice WA waves.length wq] 32)).cell? ⟨w.heap.size, 2, none⟩ = some (.slice WA waves.length wq) := cell_new w _ 32 2
  have hlt0 : w.heap.size < (w.alloc (.cells #[.int .i64 n, .slice SA stash.length sc, .slice WA waves.length wq] 32)).heap.size := by simp
  clear hb1 hP
  go_enter Try.func28, Try.ntmps28
  go_wp2_with fail
  generalize hpb : w.heap.size = pb at *
  generalize w.alloc (.cells #[.int .i64 n, .slice SA stash.length sc, .slice WA waves.length wq] 32) = W1 at *
  go_loopw [3, 4] (fun s i wr => ∃ x : Nat, x ≤ waves.length ∧ i = .int .i64 x ∧ s = .int .i64 (totS (waves.take x)) ∧ wr = W1) (fun _ i _ => waves.length - (intOf i).toNat)
  case atStart => exact ⟨0, Nat.zero_le _, rfl, rfl, rfl⟩
  case round =>
    obtain ⟨x, hx, rfl, rfl, rfl⟩ := hrel
    by_cases hlt : x < waves.length
    · obtain ⟨v, hv⟩ := Sc.get_some waves x hlt
      obtain ⟨wb, woff, rfl, hwb, w0, hwv⟩ := (HP.out.wv.below HB.out (Nat.le_refl _)) x v hv
      have HVS := Lib.hid (HNX.out x v hv)
      obtain ⟨VA, vc, steps⟩ := v
      simp only at w0
      clear hv hwv
      go_wp2_with fail
      go_roundw
      case measure => simp [intOf]; omega
      case rel => exact ⟨x + 1, by omega, by go_num, by rw [HVS.out, IntWalk.i64_left], trivial⟩
    · obtain rfl : x = waves.length := by omega
      clear hlt
      rw [List.take_length]
      go_wp2_with fail
      go_ret
      exact ⟨rfl, (by first | exact HB.out | (rw [hpb]; exact HB.out))⟩
end Go.Proofs.Yteceephenfmdoaa
