/-
  Whether a superblock may be: the program's word and the reference's; its fields.
-/
import Derived.Test.YtblibmalommdkaaGreatEB
namespace Go.Proofs.YtblibmalommdkaaGreat.Re
open Go.RowKit
def Sup.cells (s : Sup) : Array Value := #[.int .i64 s.gen, .int .i64 s.roll, .int .i64 s.cur, .int .i64 s.tail, .int .i64 s.orig]
set_option maxRecDepth 100000 in
theorem fields_any (s : Sup) (w : World) :
    Calls Tryz.prog 42 #[.agg s.cells] w fun e w' => e = .returned (.slice (some ⟨w.heap.size + 1, 0, none⟩) 5 5) ∧ w' = (w.alloc (.cells s.cells 26)).alloc (.cells #[.int .i64 s.gen, .int .i64 6, .int .i64 s.roll, .int .i64 4, .int .i64 s.cur, .int .i64 1, .int .i64 s.tail, .int .i64 4, .int .i64 s.orig, .int .i64 4] 98) := by
  obtain ⟨a, b, c, d, o⟩ := s
  unfold Sup.cells
  simp only
  go_enter Tryz.func42, Tryz.ntmps42
  go_wp2_with fail
  go_ret
  exact ⟨by simp, rfl⟩
set_option maxRecDepth 100000 in
set_option maxHeartbeats 2000000 in
theorem MayS_any (s : Sup) (w : World) :
    Calls Tryz.prog 43 #[.agg s.cells] w fun e w' => e = .returned (.bool (decide (okS s))) ∧ Below w.heap.size w w' := by
  obtain ⟨a, b, c, d, o⟩ := s
  unfold Sup.cells okS
  simp only
  have HAL : Hid (Below w.heap.size w (w.alloc (.cells #[.int .i64 a, .int .i64 b, .int .i64 c, .int .i64 d, .int .i64 o] 26))) := Lib.hid ((Below.refl _ _).alloc (Nat.le_refl _) _)
  by_cases h0 : 1 ≤ a
  rotate_left
  · have E : decide (1 ≤ a ∧ a ≤ 1099511627776 ∧ 1 ≤ b ∧ b < 1048576 ∧ 0 ≤ c ∧ c < 16 ∧ 0 ≤ d ∧ d ≤ 16777216 ∧ 0 ≤ o ∧ o ≤ 1048576) = false := decide_eq_false (fun h => h0 h.1)
    rw [E]
    clear E
    go_enter Tryz.func43, Tryz.ntmps43
    go_wp2_with fail
    go_ret
    exact ⟨rfl, HAL.out⟩
  by_cases h1 : a ≤ 1099511627776
  rotate_left
  · have E : decide (1 ≤ a ∧ a ≤ 1099511627776 ∧ 1 ≤ b ∧ b < 1048576 ∧ 0 ≤ c ∧ c < 16 ∧ 0 ≤ d ∧ d ≤ 16777216 ∧ 0 ≤ o ∧ o ≤ 1048576) = false := decide_eq_false (fun h => h1 h.2.1)
    rw [E]
    clear E
    go_enter Tryz.func43, Tryz.ntmps43
    go_wp2_with fail
    go_ret
    exact ⟨rfl, HAL.out⟩
  by_cases h2 : 1 ≤ b
  rotate_left
  · have E : decide (1 ≤ a ∧ a ≤ 1099511627776 ∧ 1 ≤ b ∧ b < 1048576 ∧ 0 ≤ c ∧ c < 16 ∧ 0 ≤ d ∧ d ≤ 16777216 ∧ 0 ≤ o ∧ o ≤ 1048576) = false := decide_eq_false (fun h => h2 h.2.2.1)
    rw [E]
    clear E
    go_enter Tryz.func43, Tryz.ntmps43
    go_wp2_with fail
    go_ret
    exact ⟨rfl, HAL.out⟩
  by_cases h3 : b < 1048576
  rotate_left
  · have E : decide (1 ≤ a ∧ a ≤ 1099511627776 ∧ 1 ≤ b ∧ b < 1048576 ∧ 0 ≤ c ∧ c < 16 ∧ 0 ≤ d ∧ d ≤ 16777216 ∧ 0 ≤ o ∧ o ≤ 1048576) = false := decide_eq_false (fun h => h3 h.2.2.2.1)
    rw [E]
    clear E
    go_enter Tryz.func43, Tryz.ntmps43
    go_wp2_with fail
    go_ret
    exact ⟨rfl, HAL.out⟩
  by_cases h4 : 0 ≤ c
  rotate_left
  · have E : decide (1 ≤ a ∧ a ≤ 1099511627776 ∧ 1 ≤ b ∧ b < 1048576 ∧ 0 ≤ c ∧ c < 16 ∧ 0 ≤ d ∧ d ≤ 16777216 ∧ 0 ≤ o ∧ o ≤ 1048576) = false := decide_eq_false (fun h => h4 h.2.2.2.2.1)
    rw [E]
    clear E
    go_enter Tryz.func43, Tryz.ntmps43
    go_wp2_with fail
    go_ret
    exact ⟨rfl, HAL.out⟩
  by_cases h5 : c < 16
  rotate_left
  · have E : decide (1 ≤ a ∧ a ≤ 1099511627776 ∧ 1 ≤ b ∧ b < 1048576 ∧ 0 ≤ c ∧ c < 16 ∧ 0 ≤ d ∧ d ≤ 16777216 ∧ 0 ≤ o ∧ o ≤ 1048576) = false := decide_eq_false (fun h => h5 h.2.2.2.2.2.1)
    rw [E]
    clear E
    go_enter Tryz.func43, Tryz.ntmps43
    go_wp2_with fail
    go_ret
    exact ⟨rfl, HAL.out⟩
  by_cases h6 : 0 ≤ d
  rotate_left
  · have E : decide (1 ≤ a ∧ a ≤ 1099511627776 ∧ 1 ≤ b ∧ b < 1048576 ∧ 0 ≤ c ∧ c < 16 ∧ 0 ≤ d ∧ d ≤ 16777216 ∧ 0 ≤ o ∧ o ≤ 1048576) = false := decide_eq_false (fun h => h6 h.2.2.2.2.2.2.1)
    rw [E]
    clear E
    go_enter Tryz.func43, Tryz.ntmps43
    go_wp2_with fail
    go_ret
    exact ⟨rfl, HAL.out⟩
  by_cases h7 : d ≤ 16777216
  rotate_left
  · have E : decide (1 ≤ a ∧ a ≤ 1099511627776 ∧ 1 ≤ b ∧ b < 1048576 ∧ 0 ≤ c ∧ c < 16 ∧ 0 ≤ d ∧ d ≤ 16777216 ∧ 0 ≤ o ∧ o ≤ 1048576) = false := decide_eq_false (fun h => h7 h.2.2.2.2.2.2.2.1)
    rw [E]
    clear E
    go_enter Tryz.func43, Tryz.ntmps43
    go_wp2_with fail
    go_ret
    exact ⟨rfl, HAL.out⟩
  by_cases h8 : 0 ≤ o
  rotate_left
  · have E : decide (1 ≤ a ∧ a ≤ 1099511627776 ∧ 1 ≤ b ∧ b < 1048576 ∧ 0 ≤ c ∧ c < 16 ∧ 0 ≤ d ∧ d ≤ 16777216 ∧ 0 ≤ o ∧ o ≤ 1048576) = false := decide_eq_false (fun h => h8 h.2.2.2.2.2.2.2.2.1)
    rw [E]
    clear E
    go_enter Tryz.func43, Tryz.ntmps43
    go_wp2_with fail
    go_ret
    exact ⟨rfl, HAL.out⟩
  by_cases h9 : o ≤ 1048576
  rotate_left
  · have E : decide (1 ≤ a ∧ a ≤ 1099511627776 ∧ 1 ≤ b ∧ b < 1048576 ∧ 0 ≤ c ∧ c < 16 ∧ 0 ≤ d ∧ d ≤ 16777216 ∧ 0 ≤ o ∧ o ≤ 1048576) = false := decide_eq_false (fun h => h9 h.2.2.2.2.2.2.2.2.2)
    rw [E]
    clear E
    go_enter Tryz.func43, Tryz.ntmps43
    go_wp2_with fail
    go_ret
    exact ⟨rfl, HAL.out⟩
  have E : decide (1 ≤ a ∧ a ≤ 1099511627776 ∧ 1 ≤ b ∧ b < 1048576 ∧ 0 ≤ c ∧ c < 16 ∧ 0 ≤ d ∧ d ≤ 16777216 ∧ 0 ≤ o ∧ o ≤ 1048576) = true := decide_eq_true ⟨h0, h1, h2, h3, h4, h5, h6, h7, h8, h9⟩
  rw [E]
  clear E
  go_enter Tryz.func43, Tryz.ntmps43
  go_wp2_with fail
  go_ret
  exact ⟨rfl, HAL.out⟩
set_option maxRecDepth 100000 in
set_option maxHeartbeats 2000000 in
theorem RefMayS_any (s : Sup) (w : World) :
    Calls Tryz.prog 50 #[.agg s.cells] w fun e w' => e = .returned (.bool (decide (okS s))) ∧ Below w.heap.size w w' := by
  obtain ⟨a, b, c, d, o⟩ := s
  unfold Sup.cells okS
  simp only
  have HAL : Hid (Below w.heap.size w (w.alloc (.cells #[.int .i64 a, .int .i64 b, .int .i64 c, .int .i64 d, .int .i64 o] 26))) := Lib.hid ((Below.refl _ _).alloc (Nat.le_refl _) _)
  by_cases h0 : 1 ≤ a
  rotate_left
  · have E : decide (1 ≤ a ∧ a ≤ 1099511627776 ∧ 1 ≤ b ∧ b < 1048576 ∧ 0 ≤ c ∧ c < 16 ∧ 0 ≤ d ∧ d ≤ 16777216 ∧ 0 ≤ o ∧ o ≤ 1048576) = false := decide_eq_false (fun h => h0 h.1)
    rw [E]
    clear E
    go_enter Tryz.func50, Tryz.ntmps50
    go_wp2_with fail
    go_ret
    exact ⟨rfl, HAL.out⟩
  by_cases h1 : a ≤ 1099511627776
  rotate_left
  · have E : decide (1 ≤ a ∧ a ≤ 1099511627776 ∧ 1 ≤ b ∧ b < 1048576 ∧ 0 ≤ c ∧ c < 16 ∧ 0 ≤ d ∧ d ≤ 16777216 ∧ 0 ≤ o ∧ o ≤ 1048576) = false := decide_eq_false (fun h => h1 h.2.1)
    rw [E]
    clear E
    go_enter Tryz.func50, Tryz.ntmps50
    go_wp2_with fail
    go_ret
    exact ⟨rfl, HAL.out⟩
  by_cases h2 : 1 ≤ b
  rotate_left
  · have E : decide (1 ≤ a ∧ a ≤ 1099511627776 ∧ 1 ≤ b ∧ b < 1048576 ∧ 0 ≤ c ∧ c < 16 ∧ 0 ≤ d ∧ d ≤ 16777216 ∧ 0 ≤ o ∧ o ≤ 1048576) = false := decide_eq_false (fun h => h2 h.2.2.1)
    rw [E]
    clear E
    go_enter Tryz.func50, Tryz.ntmps50
    go_wp2_with fail
    go_ret
    exact ⟨rfl, HAL.out⟩
  by_cases h3 : b < 1048576
  rotate_left
  · have E : decide (1 ≤ a ∧ a ≤ 1099511627776 ∧ 1 ≤ b ∧ b < 1048576 ∧ 0 ≤ c ∧ c < 16 ∧ 0 ≤ d ∧ d ≤ 16777216 ∧ 0 ≤ o ∧ o ≤ 1048576) = false := decide_eq_false (fun h => h3 h.2.2.2.1)
    rw [E]
    clear E
    go_enter Tryz.func50, Tryz.ntmps50
    go_wp2_with fail
    go_ret
    exact ⟨rfl, HAL.out⟩
  by_cases h4 : 0 ≤ c
  rotate_left
  · have E : decide (1 ≤ a ∧ a ≤ 1099511627776 ∧ 1 ≤ b ∧ b < 1048576 ∧ 0 ≤ c ∧ c < 16 ∧ 0 ≤ d ∧ d ≤ 16777216 ∧ 0 ≤ o ∧ o ≤ 1048576) = false := decide_eq_false (fun h => h4 h.2.2.2.2.1)
    rw [E]
    clear E
    go_enter Tryz.func50, Tryz.ntmps50
    go_wp2_with fail
    go_ret
    exact ⟨rfl, HAL.out⟩
  by_cases h5 : c < 16
  rotate_left
  · have E : decide (1 ≤ a ∧ a ≤ 1099511627776 ∧ 1 ≤ b ∧ b < 1048576 ∧ 0 ≤ c ∧ c < 16 ∧ 0 ≤ d ∧ d ≤ 16777216 ∧ 0 ≤ o ∧ o ≤ 1048576) = false := decide_eq_false (fun h => h5 h.2.2.2.2.2.1)
    rw [E]
    clear E
    have hc15 : ¬ (c ≤ 15) := by omega
    go_enter Tryz.func50, Tryz.ntmps50
    go_wp2_with fail
    go_ret
    exact ⟨rfl, HAL.out⟩
  by_cases h6 : 0 ≤ d
  rotate_left
  · have E : decide (1 ≤ a ∧ a ≤ 1099511627776 ∧ 1 ≤ b ∧ b < 1048576 ∧ 0 ≤ c ∧ c < 16 ∧ 0 ≤ d ∧ d ≤ 16777216 ∧ 0 ≤ o ∧ o ≤ 1048576) = false := decide_eq_false (fun h => h6 h.2.2.2.2.2.2.1)
    rw [E]
    clear E
    have hc15 : c ≤ 15 := by omega
    go_enter Tryz.func50, Tryz.ntmps50
    go_wp2_with fail
    go_ret
    exact ⟨rfl, HAL.out⟩
  by_cases h7 : d ≤ 16777216
  rotate_left
  · have E : decide (1 ≤ a ∧ a ≤ 1099511627776 ∧ 1 ≤ b ∧ b < 1048576 ∧ 0 ≤ c ∧ c < 16 ∧ 0 ≤ d ∧ d ≤ 16777216 ∧ 0 ≤ o ∧ o ≤ 1048576) = false := decide_eq_false (fun h => h7 h.2.2.2.2.2.2.2.1)
    rw [E]
    clear E
    have hc15 : c ≤ 15 := by omega
    go_enter Tryz.func50, Tryz.ntmps50
    go_wp2_with fail
    go_ret
    exact ⟨rfl, HAL.out⟩
  by_cases h8 : 0 ≤ o
  rotate_left
  · have E : decide (1 ≤ a ∧ a ≤ 1099511627776 ∧ 1 ≤ b ∧ b < 1048576 ∧ 0 ≤ c ∧ c < 16 ∧ 0 ≤ d ∧ d ≤ 16777216 ∧ 0 ≤ o ∧ o ≤ 1048576) = false := decide_eq_false (fun h => h8 h.2.2.2.2.2.2.2.2.1)
    rw [E]
    clear E
    have hc15 : c ≤ 15 := by omega
    go_enter Tryz.func50, Tryz.ntmps50
    go_wp2_with fail
    go_ret
    exact ⟨rfl, HAL.out⟩
  by_cases h9 : o ≤ 1048576
  rotate_left
  · have E : decide (1 ≤ a ∧ a ≤ 1099511627776 ∧ 1 ≤ b ∧ b < 1048576 ∧ 0 ≤ c ∧ c < 16 ∧ 0 ≤ d ∧ d ≤ 16777216 ∧ 0 ≤ o ∧ o ≤ 1048576) = false := decide_eq_false (fun h => h9 h.2.2.2.2.2.2.2.2.2)
    rw [E]
    clear E
    have hc15 : c ≤ 15 := by omega
    go_enter Tryz.func50, Tryz.ntmps50
    go_wp2_with fail
    go_ret
    exact ⟨rfl, HAL.out⟩
  have E : decide (1 ≤ a ∧ a ≤ 1099511627776 ∧ 1 ≤ b ∧ b < 1048576 ∧ 0 ≤ c ∧ c < 16 ∧ 0 ≤ d ∧ d ≤ 16777216 ∧ 0 ≤ o ∧ o ≤ 1048576) = true := decide_eq_true ⟨h0, h1, h2, h3, h4, h5, h6, h7, h8, h9⟩
  rw [E]
  clear E
  have hc15 : c ≤ 15 := by omega
  go_enter Tryz.func50, Tryz.ntmps50
  go_wp2_with fail
  go_ret
  exact ⟨rfl, HAL.out⟩
end Go.Proofs.YtblibmalommdkaaGreat.Re
