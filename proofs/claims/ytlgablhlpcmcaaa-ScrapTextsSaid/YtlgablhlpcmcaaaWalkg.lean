/-
  What scrap.Find answers, for every list and every place.
-/
import Derived.Test.YtlgablhlpcmcaaaWalkf
namespace Go.Proofs.Ytlgablhlpcmcaaa
open Go.RowKit
/-! ### Find -/
def Finds (l : List S) (at_ : Int) (k : Nat) (s : S) : Prop := l[k]? = some s ∧ tot (l.take k) ≤ at_ ∧ at_ < tot (l.take k) + s.len

set_option maxHeartbeats 400000 in
theorem Find_yes (A : Option Addr) (len cap : Nat) (at_ : Int) (w : World) (l : List S) (hlen : l.length = len) (hr : Rd w w.heap.size A l) (hm : len ≤ 9223372036854775807) (hM : MayP l) (a0 : 0 ≤ at_) (a1 : at_ < tot l) :
    Calls Try.prog 30 #[.slice A len cap, .int .i64 at_] w fun e w' => (∃ k s, Finds l at_ k s ∧ e = .returned (.tuple #[.int .i64 (k : Nat), .int .i64 (tot (l.take k)), .bool true])) ∧ Below w.heap.size w w' := by
  have e1 := mayB_of hM
  have t1 := hM.2
  have H := Lib.hid hlen; have HM := Lib.hid hM; have HR := Lib.hid hr
  clear hlen hM hr
  go_enter Try.func30, Try.ntmps30
  go_wp2_with fail
  refine (may_any A len cap _ l H.out HR.out hm).mono ?_
  rintro e w1 ⟨rfl, hb1⟩
  have HR1 := Lib.hid (HR.out.up hb1)
  have HB1 := Lib.hid hb1
  clear hb1
  go_wp2_with fail
  go_loopw [7, 19] (fun a i wr => ∃ k : Nat, k ≤ len ∧ i = .int .i64 k ∧ a = .int .i64 (tot (l.take k)) ∧ tot (l.take k) ≤ at_ ∧ Below w.heap.size w wr ∧ Below w1.heap.size w1 wr) (fun _ i _ => len - (intOf i).toNat)
  case atStart => exact ⟨0, Nat.zero_le _, rfl, rfl, by simpa [tot] using a0, HB1.out, Below.refl _ _⟩
  case round =>
    obtain ⟨k, hk, rfl, rfl, hat, hb, hb1⟩ := hrel
    have p1 := tot_take_le l HM.out.1 k
    have p0 := tot_nonneg (l.take k) (HM.out.1.take k)
    by_cases hlt : k < len
    · obtain ⟨s, hs⟩ := get_some l k (by have := H.out; omega)
      have e1 := tot_take_succ l k s hs
      have q1 := tot_take_le l HM.out.1 (k+1)
      have q2 := (HM.out.1.at_ hs).2.2.2.1
      obtain ⟨b, off, rfl, hb', h0, h1, h2⟩ := HR1.out.below hb1 (Nat.le_refl _) k s hs
      have E1 := Lib.hid e1
      have q3 : tot (l.take k) + s.len ≤ 1099511627776 := by omega
      have HS := Lib.hid hs
      have hz := hb.size
      have hz1 := hb1.size
      clear e1 hs hb'
      by_cases hf : at_ < tot (l.take k) + s.len
      · go_wp2_with fail
        go_ret3
        exact ⟨⟨k, s, ⟨HS.out, by omega, by omega⟩, rfl⟩, hb.alloc hz _⟩
      · go_wp2_with fail
        go_roundw
        case rel => exact ⟨k+1, by omega, by go_num, by rw [E1.out], by rw [E1.out]; omega, hb.alloc hz _, hb1.alloc hz1 _⟩
        case measure => simp [intOf]; omega
    · exfalso
      have e2 : tot (l.take k) = tot l := by rw [List.take_of_length_le (by have := H.out; omega)]
      omega
set_option maxHeartbeats 400000 in
theorem Find_no (A : Option Addr) (len cap : Nat) (at_ : Int) (w : World) (l : List S) (hlen : l.length = len) (hr : Rd w w.heap.size A l) (hm : len ≤ 9223372036854775807) (hn : ¬ (MayP l ∧ 0 ≤ at_ ∧ at_ < tot l)) (b0 : -9223372036854775808 ≤ at_) (b1 : at_ ≤ 9223372036854775807) :
    Calls Try.prog 30 #[.slice A len cap, .int .i64 at_] w fun e w' => e = .returned (.tuple #[.int .i64 0, .int .i64 0, .bool false]) ∧ Below w.heap.size w w' := by
  have H := Lib.hid hlen; have HR := Lib.hid hr
  clear hlen hr
  by_cases hM : MayP l
  · have e1 := mayB_of hM
    have t1 := hM.2
    have HM := Lib.hid hM
    by_cases a0 : at_ < 0
    · clear hM hn
      go_enter Try.func30, Try.ntmps30
      go_wp2_with fail
      refine (may_any A len cap _ l H.out HR.out hm).mono ?_
      rintro e w1 ⟨rfl, hb1⟩
      go_wp2_with fail
      go_ret3
      exact ⟨rfl, hb1⟩
    · have a2 : tot l ≤ at_ := by
        have : ¬ (0 ≤ at_ ∧ at_ < tot l) := fun h => hn ⟨hM, h⟩
        omega
      have a3 : 0 ≤ at_ := by omega
      clear hM hn a0
      go_enter Try.func30, Try.ntmps30
      go_wp2_with fail
      refine (may_any A len cap _ l H.out HR.out hm).mono ?_
      rintro e w1 ⟨rfl, hb1⟩
      have HR1 := Lib.hid (HR.out.up hb1)
      have HB1 := Lib.hid hb1
      clear hb1
      go_wp2_with fail
      go_loopw [7, 19] (fun a i wr => ∃ k : Nat, k ≤ len ∧ i = .int .i64 k ∧ a = .int .i64 (tot (l.take k)) ∧ Below w.heap.size w wr ∧ Below w1.heap.size w1 wr) (fun _ i _ => len - (intOf i).toNat)
      case atStart => exact ⟨0, Nat.zero_le _, rfl, rfl, HB1.out, Below.refl _ _⟩
      case round =>
        obtain ⟨k, hk, rfl, rfl, hb, hb1⟩ := hrel
        have p1 := tot_take_le l HM.out.1 k
        have p0 := tot_nonneg (l.take k) (HM.out.1.take k)
        by_cases hlt : k < len
        · obtain ⟨s, hs⟩ := get_some l k (by have := H.out; omega)
          have e1 := tot_take_succ l k s hs
          have q1 := tot_take_le l HM.out.1 (k+1)
          have q2 := (HM.out.1.at_ hs).2.2.2.1
          obtain ⟨b, off, rfl, hb', h0, h1, h2⟩ := HR1.out.below hb1 (Nat.le_refl _) k s hs
          have E1 := Lib.hid e1
          have q3 : tot (l.take k) + s.len ≤ 1099511627776 := by omega
          have q4 : tot (l.take k) + s.len ≤ at_ := by omega
          have hz := hb.size
          have hz1 := hb1.size
          clear e1 hs hb'
          go_wp2_with fail
          go_roundw
          case rel => exact ⟨k+1, by omega, by go_num, by rw [E1.out], hb.alloc hz _, hb1.alloc hz1 _⟩
          case measure => simp [intOf]; omega
        · obtain rfl : k = len := by omega
          clear hlt
          go_wp2_with fail
          go_ret3
          exact ⟨rfl, hb⟩
  · have e1 := mayB_not hM
    clear hn hM
    go_enter Try.func30, Try.ntmps30
    go_wp2_with fail
    refine (may_any A len cap _ l H.out HR.out hm).mono ?_
    rintro e w1 ⟨rfl, hb1⟩
    go_wp2_with fail
    go_ret3
    exact ⟨rfl, hb1⟩
end Go.Proofs.Ytlgablhlpcmcaaa
