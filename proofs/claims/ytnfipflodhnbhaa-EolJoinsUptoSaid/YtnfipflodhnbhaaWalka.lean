/-
  What eol.Count, Nth, Line and Start answer, for all bytes and all numbers.
-/
import Derived.Test.YtnfipflodhnbhaaRows
import Derived.Test.YtnfipflodhnbhaaBase
import Derived.Shelf.Bytes.SlCountOne
import Derived.Outline
import Derived.BigQuiet
import Derived.Deep.QuietTactic
import Derived.Deep.DeepCutAuto
import Derived.WalkLawsBesides
import Derived.Handy
namespace Go.Proofs.Ytnfipflodhnbhaa
open Go.RowKit
/-- Numbers of bytes. -/
def Byt (l : List Int) : Prop := ∀ n ∈ l, 0 ≤ n ∧ n ≤ 255
theorem Byt.take {l : List Int} (h : Byt l) (k : Nat) : Byt (l.take k) := fun n hn => h n (List.mem_of_mem_take hn)
theorem Byt.drop {l : List Int} (h : Byt l) (k : Nat) : Byt (l.drop k) := fun n hn => h n (List.mem_of_mem_drop hn)
theorem byte10 (n : Int) (h : 0 ≤ n ∧ n ≤ 255) : (UInt8.ofNat n.toNat == (10 : Int).toNat.toUInt8) = decide (n = 10) := by
  obtain ⟨n, rfl⟩ := Int.eq_ofNat_of_zero_le h.1
  have hn : n < 256 := by omega
  rw [Bool.eq_iff_iff]
  simp only [beq_iff_eq, decide_eq_true_eq, Int.toNat_natCast]
  constructor
  · intro e
    have := congrArg UInt8.toNat e
    have e1 : (UInt8.ofNat n).toNat = n := by simp; omega
    rw [e1] at this
    have e2 : ((10 : Int).toNat.toUInt8).toNat = 10 := rfl
    rw [e2] at this
    omega
  · intro e
    have : n = 10 := by omega
    subst this; rfl
theorem countByte_cnt {l : List Int} (h : Byt l) : (Lib.countByte (Lib.bytesOf l) (10 : Int).toNat.toUInt8 : Int) = (cnt l : Int) := by
  congr 1
  unfold Lib.countByte Lib.bytesOf cnt List.count
  rw [List.countP_map]
  apply List.countP_congr
  intro x hx
  simp only [Function.comp_apply, byte10 x (h x hx)]
theorem bcount_any (A : Option Addr) (len cap : Nat) (g : Addr) (w : World) (l : List Int) (hlen : l.length = len) (hB : Byt l) (hr : RdB w w.heap.size A l) (hg : w.cell? g = some (.int .u8 10)) :
    Calls Try.prog 20 #[.slice A len cap, .slice (some g) 1 1] w fun e w' => e = .returned (.int .i64 (cnt l)) ∧ w = w' := by
  have H := Lib.hid (countByte_cnt hB)
  have hg0 : w.cell? (g.add 0) = some (.int .u8 10) := by simpa [Addr.add] using hg
  cases A with
  | none =>
    have hl : l = [] := by
      cases l with
      | nil => rfl
      | cons a l => obtain ⟨b, off, e, _⟩ := hr 0 a rfl; cases e
    subst hl
    subst hlen
    go_enter Try.func20, Try.ntmps20
    go_wp2_with fail
    rw [run_callFunc_extern Try.func23 (by kernel_rfl) (by kernel_rfl) (by kernel_rfl) (e := Extern.BytealgCount.count) (by kernel_rfl), Lib.run_countNil]
    simp only [Result.andThen]
    rw [Oper.upon_value]
    go_wp2_with fail
    go_ret
    exact ⟨rfl, rfl⟩
  | some a =>
    have hc : ∀ i, i < len → w.cell? (a.add i) = some (.int .u8 (l.getD i 0)) := by
      intro i hi
      obtain ⟨v, hv⟩ := get_some l i (by omega)
      obtain ⟨b, off, e, _, hcell⟩ := hr i v hv
      cases e
      have hadd : (⟨b, off, none⟩ : Addr).add i = ⟨b, off + i, none⟩ := by unfold Addr.add; split <;> simp_all
      rw [hadd, hcell, List.getD_eq_getElem?_getD, hv]; rfl
    have HC := Lib.hid (Lib.run_countAt (P := Try.prog) w a len cap l hlen hc 10)
    clear hr hc hB hlen
    go_enter Try.func20, Try.ntmps20
    go_wp2_with fail
    rw [run_callFunc_extern Try.func23 (by kernel_rfl) (by kernel_rfl) (by kernel_rfl) (e := Extern.BytealgCount.count) (by kernel_rfl), HC.out]
    simp only [Result.andThen]
    rw [Oper.upon_value]
    go_wp2_with fail
    go_ret
    exact ⟨ret_int H.out, rfl⟩
theorem Count_any (A : Option Addr) (len cap : Nat) (w : World) (l : List Int) (hlen : l.length = len) (hB : Byt l) (hr : RdB w w.heap.size A l) :
    Calls Try.prog 8 #[.slice A len cap] w fun e w' => e = .returned (.int .i64 (cnt l)) ∧ Below w.heap.size w w' := by
  go_enter Try.func8, Try.ntmps8
  go_wp2_with fail
  refine (bcount_any A len cap ⟨w.heap.size, 0, none⟩ _ l hlen hB ((hr.alloc (Nat.le_refl _) _).more (by simp)) (by rw [cell_new]; rfl)).mono ?_
  rintro e w' ⟨rfl, rfl⟩
  go_wp2_with fail
  go_ret
  exact ⟨rfl, (Below.refl _ _).alloc (Nat.le_refl _) _⟩
theorem RdB.takeB {w : World} {B : Nat} {A : Option Addr} {l : List Int} (h : RdB w B A l) (k : Nat) : RdB w B A (l.take k) := by
  intro j s hs
  rw [List.getElem?_take] at hs
  split at hs
  · exact h j s hs
  · cases hs
theorem Line_yes (A : Option Addr) (len cap at_ : Nat) (w : World) (l : List Int) (hlen : l.length = len) (hB : Byt l) (hr : RdB w w.heap.size A l) (hat : at_ ≤ len) (hcap : len ≤ cap) (_hm : cap ≤ 9223372036854775807) :
    Calls Try.prog 10 #[.slice A len cap, .int .i64 at_] w fun e w' => e = .returned (.tuple #[.int .i64 (cnt (l.take at_)), .int .i64 0]) ∧ Below w.heap.size w w' := by
  have H := Lib.hid hlen; have HB := Lib.hid hB; have HR := Lib.hid hr
  clear hlen hB hr
  go_enter Try.func10, Try.ntmps10
  go_wp2_with fail
  refine (Count_any A at_ cap _ (l.take at_) (by have := H.out; simp; omega) (HB.out.take _) (HR.out.takeB _)).mono ?_
  rintro e w1 ⟨rfl, hb⟩
  go_wp2_with fail
  go_ret2
  exact ⟨rfl, hb⟩
theorem Line_no (A : Option Addr) (len cap : Nat) (at_ : Int) (w : World) (hat : at_ < 0 ∨ (len : Int) < at_) :
    Calls Try.prog 10 #[.slice A len cap, .int .i64 at_] w fun e w' => e = .returned (.tuple #[.int .i64 0, .int .i64 2]) ∧ w = w' := by
  by_cases h0 : at_ < 0
  · clear hat
    go_enter Try.func10, Try.ntmps10
    go_wp2_with fail
    go_ret2
    exact ⟨rfl, rfl⟩
  · have h1 : (len : Int) < at_ := by omega
    clear hat
    go_enter Try.func10, Try.ntmps10
    go_wp2_with fail
    go_ret2
    exact ⟨rfl, rfl⟩
theorem Nth_neg (A : Option Addr) (len cap : Nat) (k : Int) (w : World) (hk : k < 0) :
    Calls Try.prog 11 #[.slice A len cap, .int .i64 k] w fun e w' => e = .returned (.tuple #[.int .i64 0, .bool false]) ∧ w = w' := by
  go_enter Try.func11, Try.ntmps11
  go_wp2_with fail
  go_ret2
  exact ⟨rfl, rfl⟩
/-- What Nth answers. -/
def NthR (l : List Int) (k : Nat) (e : Ending) : Prop := (∃ p : Nat, NthP l k p ∧ e = .returned (.tuple #[.int .i64 p, .bool true])) ∨ (cnt l ≤ k ∧ e = .returned (.tuple #[.int .i64 0, .bool false]))
set_option maxHeartbeats 400000 in
theorem Nth_any (A : Option Addr) (len cap k : Nat) (w : World) (l : List Int) (hlen : l.length = len) (hr : RdB w w.heap.size A l) (hm : len ≤ 9223372036854775807) (hk : k ≤ 9223372036854775807) :
    Calls Try.prog 11 #[.slice A len cap, .int .i64 k] w fun e w' => NthR l k e ∧ w = w' := by
  have H := Lib.hid hlen; have HR := Lib.hid hr
  clear hlen hr
  go_enter Try.func11, Try.ntmps11
  go_wp2_with fail
  go_loopw [1, 12] (fun q i wr => ∃ j : Nat, j ≤ len ∧ cnt (l.take j) ≤ k ∧ i = .int .i64 j ∧ q = .int .i64 ((k : Int) - cnt (l.take j)) ∧ w = wr) (fun _ i _ => len - (intOf i).toNat)
  case atStart => exact ⟨0, Nat.zero_le _, by simp [cnt], rfl, by simp [cnt], rfl⟩
  case round =>
    obtain ⟨j, hj, hjk, rfl, rfl, rfl⟩ := hrel
    by_cases hlt : j < len
    · obtain ⟨x, hx⟩ := get_some l j (by have := H.out; omega)
      obtain ⟨b, off, rfl, hb', h0⟩ := HR.out j x hx
      have hs := cnt_take_succ hx
      have HX := Lib.hid hx
      by_cases h10 : x = 10
      · rw [if_pos h10] at hs
        have HS := Lib.hid hs
        have H10 := Lib.hid h10
        have f1 : (x != 10) = false := by simpa using h10
        clear hs hx h10
        by_cases he : k = cnt (l.take j)
        · have HE := Lib.hid he
          have hle : cnt (l.take j) ≤ len := by have := cnt_take_le' l j; omega
          have f2 : ((k : Int) - (cnt (l.take j) : Nat) == 0) = true := by simp; omega
          clear he
          go_wp2_with fail
          go_ret2
          exact ⟨.inl ⟨j, ⟨by rw [HX.out, H10.out], HE.out.symm⟩, rfl⟩, rfl⟩
        · have f2 : ((k : Int) - (cnt (l.take j) : Nat) == 0) = false := by simp; omega
          have f3 : cnt (l.take j) < k := by omega
          clear he
          go_wp2_with fail
          go_roundw
          case rel => exact ⟨j+1, by omega, by rw [HS.out]; omega, by go_num, by rw [HS.out]; congr 1; omega, trivial⟩
          case measure => simp [intOf]; omega
      · rw [if_neg h10] at hs
        have HS := Lib.hid hs
        have f1 : (x != 10) = true := by simpa using h10
        clear hs hx h10
        go_wp2_with fail
        go_roundw
        case rel => exact ⟨j+1, by omega, by rw [HS.out]; omega, by go_num, by rw [HS.out]; congr 1, trivial⟩
        case measure => simp [intOf]; omega
    · obtain rfl : j = len := by omega
      clear hlt
      have e2 : l.take j = l := by rw [List.take_of_length_le (Nat.le_of_eq H.out)]
      have hck : cnt l ≤ k := by rw [e2] at hjk; exact hjk
      clear e2
      go_wp2_with fail
      go_ret2
      exact ⟨.inr ⟨hck, rfl⟩, rfl⟩
end Go.Proofs.Ytnfipflodhnbhaa
