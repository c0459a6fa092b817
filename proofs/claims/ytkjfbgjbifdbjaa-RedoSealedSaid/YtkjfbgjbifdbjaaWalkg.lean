/-
  What le.Int and the reference's Int and value answer, of few bytes.
-/
import Derived.Test.YtkjfbgjbifdbjaaPlain
namespace Go.Proofs.Ytkjfbgjbifdbjaa
open Go.RowKit
def leVal (l : List Int) : Int := l.foldr (fun b acc => b + 256 * acc) 0
theorem leVal_cons (b : Int) (l : List Int) : leVal (b :: l) = b + 256 * leVal l := rfl
theorem leVal_bd (l : List Int) (hl : Bytes l) : 0 ≤ leVal l ∧ leVal l < 256 ^ l.length := by
  induction l with
  | nil => exact ⟨Int.le_refl _, by decide⟩
  | cons b l ih =>
    obtain ⟨h0, h1⟩ := ih (fun c hc => hl c (by simp [hc]))
    obtain ⟨hb0, hb1⟩ := hl b (by simp)
    rw [leVal_cons, List.length_cons, Int.pow_succ]
    constructor
    · omega
    · generalize (256 : Int) ^ l.length = p at *
      omega
theorem leVal_lt4 (l : List Int) (hl : Bytes l) (hn : l.length ≤ 4) : 0 ≤ leVal l ∧ leVal l < 4294967296 := by
  obtain ⟨h0, h1⟩ := leVal_bd l hl
  refine ⟨h0, ?_⟩
  rcases (show l.length = 0 ∨ l.length = 1 ∨ l.length = 2 ∨ l.length = 3 ∨ l.length = 4 by omega) with e | e | e | e | e <;> rw [e] at h1 <;> simp at h1 <;> omega
theorem leVal_lt3 (l : List Int) (hl : Bytes l) (hn : l.length ≤ 3) : 0 ≤ leVal l ∧ leVal l < 16777216 := by
  obtain ⟨h0, h1⟩ := leVal_bd l hl
  refine ⟨h0, ?_⟩
  rcases (show l.length = 0 ∨ l.length = 1 ∨ l.length = 2 ∨ l.length = 3 by omega) with e | e | e | e <;> rw [e] at h1 <;> simp at h1 <;> omega
theorem bytes_drop {l : List Int} (h : Bytes l) (k : Nat) : Bytes (l.drop k) := fun b hb => h b (List.mem_of_mem_drop hb)
theorem bytes_take {l : List Int} (h : Bytes l) (k : Nat) : Bytes (l.take k) := fun b hb => h b (List.mem_of_mem_take hb)
theorem leVal_drop (l : List Int) (j : Nat) (s : Int) (h : l[j]? = some s) : leVal (l.drop j) = s + 256 * leVal (l.drop (j+1)) := by
  have hj := (List.getElem?_eq_some_iff.1 h)
  obtain ⟨hlt, he⟩ := hj
  rw [List.drop_eq_getElem_cons hlt, he, leVal_cons]
theorem or_join (x y : Int) (hx0 : 0 ≤ x) (hx1 : x < 16777216) (hy0 : 0 ≤ y) (hy1 : y ≤ 255) : bits .or .i64 (x * 256) y = y + 256 * x := by
  have h := bits_join .i64 32 (by decide) (fun n h0 h1 => by rw [IntKind.wrap_i64]; omega) 8 (x * 256) y (by omega) (by omega) (by omega) hy0 (by omega) (by omega)
  rw [h]; omega
theorem Int_any (A : Option Addr) (n c : Nat) (w : World) (l : List Int) (hl : l.length = n) (hr : RdB w w.heap.size A l) (hb : Bytes l) (h1 : 1 ≤ n) (h4 : n ≤ 4) :
    Calls Try.prog 22 #[.slice A n c] w fun e w' => e = .returned (.tuple #[.int .i64 (leVal l), .int .i64 0]) ∧ w = w' := by
  have H := Lib.hid hl; have HR := Lib.hid hr; have HB := Lib.hid hb
  clear hl hr hb
  go_enter Try.func22, Try.ntmps22
  go_wp2_with fail
  go_loopw [4, 5] (fun v i wr => ∃ j : Nat, j ≤ n ∧ i = .int .i64 ((j : Int) - 1) ∧ v = .int .i64 (leVal (l.drop j)) ∧ w = wr) (fun _ i _ => (intOf i + 1).toNat)
  case atStart => exact ⟨n, Nat.le_refl _, rfl, by rw [List.drop_eq_nil_of_le (by rw [H.out]; exact Nat.le_refl _)]; rfl, rfl⟩
  case round =>
    obtain ⟨j, hj, rfl, rfl, rfl⟩ := hrel
    by_cases hlt : 1 ≤ j
    · obtain ⟨i, rfl⟩ : ∃ i, j = i + 1 := ⟨j - 1, by omega⟩
      obtain ⟨s, hs⟩ := get_some l i (by rw [H.out]; omega)
      obtain ⟨b, off, rfl, hblt, hc0⟩ := HR.out i s hs
      obtain ⟨hs0, hs1⟩ := HB.out s (List.mem_of_getElem? hs)
      have HD := Lib.hid (leVal_drop l i s hs)
      have hx := leVal_lt3 (l.drop (i+1)) (bytes_drop HB.out _) (by rw [List.length_drop, H.out]; omega)
      have e1 : ((i + 1 : Nat) : Int) - 1 = (i : Int) := by omega
      rw [e1]
      clear hs e1
      generalize leVal (l.drop (i+1)) = x at *
      obtain ⟨hx0, hx1⟩ := hx
      have e2 := or_join x s hx0 hx1 hs0 hs1
      go_wp2_with fail
      go_roundw
      case rel => exact ⟨i, by omega, rfl, by rw [HD.out], trivial⟩
      case measure => simp [intOf]
    · obtain rfl : j = 0 := by omega
      go_wp2_with fail
      go_ret2
      exact ⟨by simp, rfl⟩
theorem RefInt_any (A : Option Addr) (n c : Nat) (w : World) (l : List Int) (hl : l.length = n) (hr : RdB w w.heap.size A l) (hb : Bytes l) (h1 : 1 ≤ n) (h4 : n ≤ 4) :
    Calls Try.prog 33 #[.slice A n c] w fun e w' => e = .returned (.tuple #[.int .i64 (leVal l), .int .i64 0]) ∧ w = w' := by
  have H := Lib.hid hl; have HR := Lib.hid hr; have HB := Lib.hid hb
  clear hl hr hb
  go_enter Try.func33, Try.ntmps33
  go_wp2_with fail
  go_loopw [4, 5] (fun v i wr => ∃ j k : Nat, j + k = n ∧ i = .int .i64 (k : Int) ∧ v = .int .i64 (leVal (l.drop j)) ∧ w = wr) (fun _ i _ => n - (intOf i).toNat)
  case atStart => exact ⟨n, 0, rfl, rfl, by rw [List.drop_eq_nil_of_le (by rw [H.out]; exact Nat.le_refl _)]; rfl, rfl⟩
  case round =>
    obtain ⟨j, k, hj, rfl, rfl, rfl⟩ := hrel
    by_cases hlt : 1 ≤ j
    · obtain ⟨i, rfl⟩ : ∃ i, j = i + 1 := ⟨j - 1, by omega⟩
      obtain ⟨s, hs⟩ := get_some l i (by rw [H.out]; omega)
      obtain ⟨b, off, rfl, hblt, hc0⟩ := HR.out i s hs
      obtain ⟨hs0, hs1⟩ := HB.out s (List.mem_of_getElem? hs)
      have HD := Lib.hid (leVal_drop l i s hs)
      have hx := leVal_lt3 (l.drop (i+1)) (bytes_drop HB.out _) (by rw [List.length_drop, H.out]; omega)
      have hkn : k < n := by omega
      have hin : i < n := by omega
      have e1 : (n : Int) - 1 - (k : Int) = (i : Int) := by omega
      have HJ := Lib.hid hj
      clear hs hj
      generalize leVal (l.drop (i+1)) = x at *
      obtain ⟨hx0, hx1⟩ := hx
      go_wp2_with fail
      go_roundw
      case rel => exact ⟨i, k+1, by have := HJ.out; omega, by go_num, by rw [HD.out]; congr 1; omega, trivial⟩
      case measure => simp [intOf]; omega
    · obtain rfl : j = 0 := by omega
      obtain rfl : n = k := by omega
      clear hj
      go_wp2_with fail
      go_ret2
      exact ⟨by simp, rfl⟩
theorem value_any (A : Option Addr) (n c : Nat) (w : World) (l : List Int) (hl : l.length = n) (hr : RdB w w.heap.size A l) (hb : Bytes l) (h1 : 1 ≤ n) (h4 : n ≤ 4) :
    Calls Try.prog 28 #[.slice A n c] w fun e w' => e = .returned (.int .i64 (leVal l)) ∧ w = w' := by
  have H := Lib.hid hl; have HR := Lib.hid hr; have HB := Lib.hid hb
  clear hl hr hb
  go_enter Try.func28, Try.ntmps28
  go_wp2_with fail
  refine (RefInt_any A n c _ l H.out HR.out HB.out h1 h4).mono ?_
  rintro e w1 ⟨rfl, rfl⟩
  go_wp2_with fail
  go_ret
  exact ⟨rfl, rfl⟩
end Go.Proofs.Ytkjfbgjbifdbjaa
