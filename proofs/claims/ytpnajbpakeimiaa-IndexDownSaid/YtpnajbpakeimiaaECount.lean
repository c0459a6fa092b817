/-
  What eol.Count and the reference's Line answer, for all bytes.
-/
import Derived.Test.YtpnajbpakeimiaaRows
import Derived.Test.YtpnajbpakeimiaaBBase
import Derived.Shelf.Bytes.SlCountOne
import Derived.Outline
import Derived.BigQuiet
import Derived.Deep.QuietTactic
import Derived.Deep.DeepCutAuto
import Derived.WalkLawsBesides
import Derived.Handy
namespace Go.Proofs.Ytpnajbpakeimiaa
open Go.RowKit
def cnt (l : List Int) : Nat := l.countP (fun x => decide (x = 10))
theorem cnt_nil : cnt [] = 0 := rfl
theorem cnt_append (l m : List Int) : cnt (l ++ m) = cnt l + cnt m := by simp [cnt]
theorem cnt_take_succ {l : List Int} {k : Nat} {x : Int} (h : l[k]? = some x) : cnt (l.take (k+1)) = cnt (l.take k) + if x = 10 then 1 else 0 := by
  rw [take_snoc l k x h, cnt_append]
  congr 1
  by_cases hx : x = 10 <;> simp [cnt, hx]
theorem cnt_take_mono (l : List Int) {i j : Nat} (h : i ≤ j) : cnt (l.take i) ≤ cnt (l.take j) := by
  have e : l.take i = (l.take j).take i := by rw [List.take_take, Nat.min_eq_left h]
  rw [e]
  have h1 : cnt (l.take j) = cnt ((l.take j).take i) + cnt ((l.take j).drop i) := by rw [← cnt_append, List.take_append_drop]
  omega
theorem cnt_take_le (l : List Int) (i : Nat) : cnt (l.take i) ≤ cnt l := by
  have h1 : cnt l = cnt (l.take i) + cnt (l.drop i) := by rw [← cnt_append, List.take_append_drop]
  omega
theorem cnt_le (l : List Int) : cnt l ≤ l.length := List.countP_le_length
theorem cnt_take_le' (l : List Int) (i : Nat) : cnt (l.take i) ≤ i := by
  have := cnt_le (l.take i)
  rw [List.length_take] at this
  omega
/-- Numbers of bytes. -/
def Byt (l : List Int) : Prop := ∀ n ∈ l, 0 ≤ n ∧ n ≤ 255
theorem Byt.take {l : List Int} (h : Byt l) (k : Nat) : Byt (l.take k) := fun n hn => h n (List.mem_of_mem_take hn)
theorem Byt.drop {l : List Int} (h : Byt l) (k : Nat) : Byt (l.drop k) := fun n hn => h n (List.mem_of_mem_drop hn)
theorem byte10 (n : Int) (h : 0 ≤ n ∧ n ≤ 255) : (UInt8.ofNat n.toNat == (10 : Int).toNat.toUInt8) = decide (n = 10) := by
  obtain ⟨n, rfl⟩ := Int.eq_ofNat_of_zero_le h.1
  have hn : n < 256 := by omega
  rw [Bool.eq_iff_iff]
  simp only [beq_iff_eq, decide_eq_true_eq, Int.toNat_natCast]
  constructor
  · intro e
    have := congrArg UInt8.toNat e
    have e1 : (UInt8.ofNat n).toNat = n := by simp; omega
    rw [e1] at this
    have e2 : ((10 : Int).toNat.toUInt8).toNat = 10 := rfl
    rw [e2] at this
    omega
  · intro e
    have : n = 10 := by omega
    subst this; rfl
theorem countByte_cnt {l : List Int} (h : Byt l) : (Lib.countByte (Lib.bytesOf l) (10 : Int).toNat.toUInt8 : Int) = (cnt l : Int) := by
  congr 1
  unfold Lib.countByte Lib.bytesOf cnt List.count
  rw [List.countP_map]
  apply List.countP_congr
  intro x hx
  simp only [Function.comp_apply, byte10 x (h x hx)]
theorem bcount_any (A : Option Addr) (len cap : Nat) (g : Addr) (w : World) (l : List Int) (hlen : l.length = len) (hB : Byt l) (hr : RdB w w.heap.size A l) (hg : w.cell? g = some (.int .u8 10)) :
    Calls Try.prog 38 #[.slice A len cap, .slice (some g) 1 1] w fun e w' => e = .returned (.int .i64 (cnt l)) ∧ w = w' := by
  have H := Lib.hid (countByte_cnt hB)
  have hg0 : w.cell? (g.add 0) = some (.int .u8 10) := by simpa [Addr.add] using hg
  cases A with
  | none =>
    have hl : l = [] := by
      cases l with
      | nil => rfl
      | cons a l => obtain ⟨b, off, e, _⟩ := hr 0 a rfl; cases e
    subst hl
    subst hlen
    go_enter Try.func38, Try.ntmps38
    go_wp2_with fail
    rw [run_callFunc_extern Try.func45 (by kernel_rfl) (by kernel_rfl) (by kernel_rfl) (e := Extern.BytealgCount.count) (by kernel_rfl), Lib.run_countNil]
    simp only [Result.andThen]
    rw [Oper.upon_value]
    go_wp2_with fail
    go_ret
    exact ⟨rfl, rfl⟩
  | some a =>
    have hc : ∀ i, i < len → w.cell? (a.add i) = some (.int .u8 (l.getD i 0)) := by
      intro i hi
      obtain ⟨v, hv⟩ := get_some l i (by omega)
      obtain ⟨b, off, e, _, hcell⟩ := hr i v hv
      cases e
      have hadd : (⟨b, off, none⟩ : Addr).add i = ⟨b, off + i, none⟩ := by unfold Addr.add; split <;> simp_all
      rw [hadd, hcell, List.getD_eq_getElem?_getD, hv]; rfl
    have HC := Lib.hid (Lib.run_countAt (P := Try.prog) w a len cap l hlen hc 10)
    clear hr hc hB hlen
    go_enter Try.func38, Try.ntmps38
    go_wp2_with fail
    rw [run_callFunc_extern Try.func45 (by kernel_rfl) (by kernel_rfl) (by kernel_rfl) (e := Extern.BytealgCount.count) (by kernel_rfl), HC.out]
    simp only [Result.andThen]
    rw [Oper.upon_value]
    go_wp2_with fail
    go_ret
    exact ⟨ret_int H.out, rfl⟩
theorem Count_any (A : Option Addr) (len cap : Nat) (w : World) (l : List Int) (hlen : l.length = len) (hB : Byt l) (hr : RdB w w.heap.size A l) :
    Calls Try.prog 33 #[.slice A len cap] w fun e w' => e = .returned (.int .i64 (cnt l)) ∧ Below w.heap.size w w' := by
  go_enter Try.func33, Try.ntmps33
  go_wp2_with fail
  refine (bcount_any A len cap ⟨w.heap.size, 0, none⟩ _ l hlen hB ((hr.alloc (Nat.le_refl _) _).more (by simp)) (by rw [cell_new]; rfl)).mono ?_
  rintro e w' ⟨rfl, rfl⟩
  go_wp2_with fail
  go_ret
  exact ⟨rfl, (Below.refl _ _).alloc (Nat.le_refl _) _⟩
theorem RdB.takeB {w : World} {B : Nat} {A : Option Addr} {l : List Int} (h : RdB w B A l) (k : Nat) : RdB w B A (l.take k) := by
  intro j s hs
  rw [List.getElem?_take] at hs
  split at hs
  · exact h j s hs
  · cases hs
theorem RefLine_any (A : Option Addr) (len cap at_ : Nat) (w : World) (l : List Int) (hlen : l.length = len) (hr : RdB w w.heap.size A l) (hat : at_ ≤ len) (hm : len ≤ 9223372036854775807) :
    Calls Try.prog 10 #[.slice A len cap, .int .i64 at_] w fun e w' => e = .returned (.int .i64 (cnt (l.take at_))) ∧ w = w' := by
  have H := Lib.hid hlen; have HR := Lib.hid hr
  clear hlen hr
  go_enter Try.func10, Try.ntmps10
  go_wp2_with fail
  go_loopw [5, 6] (fun q i wr => ∃ j : Nat, j ≤ at_ ∧ cnt (l.take j) ≤ j ∧ i = .int .i64 j ∧ q = .int .i64 (cnt (l.take j)) ∧ w = wr) (fun _ i _ => at_ - (intOf i).toNat)
  case atStart => exact ⟨0, Nat.zero_le _, by simp [cnt], rfl, by simp [cnt], rfl⟩
  case round =>
    obtain ⟨j, hj, hc, rfl, rfl, rfl⟩ := hrel
    by_cases hlt : j < at_
    · obtain ⟨x, hx⟩ := get_some l j (by have := H.out; omega)
      obtain ⟨b, off, rfl, hb', h0⟩ := HR.out j x hx
      have hs := cnt_take_succ hx
      by_cases h10 : x = 10
      · rw [if_pos h10] at hs
        have HS := Lib.hid hs
        subst h10
        clear hs hx
        go_wp2_with fail
        go_roundw
        case rel => exact ⟨j+1, by omega, by rw [HS.out]; omega, by go_num, by rw [HS.out]; go_num, trivial⟩
        case measure => simp [intOf]; omega
      · rw [if_neg h10] at hs
        have HS := Lib.hid hs
        have f1 : (x == 10) = false := by simpa using h10
        clear hs hx h10
        go_wp2_with fail
        go_roundw
        case rel => exact ⟨j+1, by omega, by rw [HS.out]; omega, by go_num, by rw [HS.out]; rfl, trivial⟩
        case measure => simp [intOf]; omega
    · obtain rfl : j = at_ := by omega
      clear hlt
      go_wp2_with fail
      go_ret
      exact ⟨rfl, rfl⟩
end Go.Proofs.Ytpnajbpakeimiaa
