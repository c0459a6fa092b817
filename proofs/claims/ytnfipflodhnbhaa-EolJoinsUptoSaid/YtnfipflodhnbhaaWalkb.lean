/-
  What eol.Start answers, for all bytes and all lines; that the document's example (awake) is true; that the law EolBack returns true, for all bytes and every place.
-/
import Derived.Test.YtnfipflodhnbhaaWalka
namespace Go.Proofs.Ytnfipflodhnbhaa
open Go.RowKit
theorem Nth_yes (A : Option Addr) (len cap k : Nat) (w : World) (l : List Int) (hlen : l.length = len) (hr : RdB w w.heap.size A l) (hm : len ≤ 9223372036854775807) (hk : k < cnt l) :
    Calls Try.prog 11 #[.slice A len cap, .int .i64 k] w fun e w' => (∃ p : Nat, NthP l k p ∧ e = .returned (.tuple #[.int .i64 p, .bool true])) ∧ w = w' := by
  have := cnt_le l
  refine (Nth_any A len cap k w l hlen hr hm (by omega)).mono fun e w' ⟨h, hw⟩ => ⟨?_, hw⟩
  rcases h with h | ⟨h, _⟩
  · exact h
  · omega
theorem Nth_no (A : Option Addr) (len cap k : Nat) (w : World) (l : List Int) (hlen : l.length = len) (hr : RdB w w.heap.size A l) (hm : len ≤ 9223372036854775807) (hk : cnt l ≤ k) (hk2 : k ≤ 9223372036854775807) :
    Calls Try.prog 11 #[.slice A len cap, .int .i64 k] w fun e w' => e = .returned (.tuple #[.int .i64 0, .bool false]) ∧ w = w' := by
  refine (Nth_any A len cap k w l hlen hr hm hk2).mono fun e w' ⟨h, hw⟩ => ⟨?_, hw⟩
  rcases h with ⟨p, hp, _⟩ | ⟨_, h⟩
  · have := hp.lt_cnt; omega
  · exact h
theorem Start_zero (A : Option Addr) (len cap : Nat) (w : World) : Calls Try.prog 9 #[.slice A len cap, .int .i64 0] w fun e w' => e = .returned (.tuple #[.int .i64 0, .int .i64 0]) ∧ w = w' := by
  go_enter Try.func9, Try.ntmps9
  go_wp2_with fail
  go_ret2
  exact ⟨rfl, rfl⟩
theorem Start_yes (A : Option Addr) (len cap k : Nat) (line : Int) (w : World) (l : List Int) (hlen : l.length = len) (hr : RdB w w.heap.size A l) (hm : len ≤ 140737488355328) (hk : k < cnt l) (hline : line = (k : Int) + 1) :
    Calls Try.prog 9 #[.slice A len cap, .int .i64 line] w fun e w' => (∃ p : Nat, NthP l k p ∧ e = .returned (.tuple #[.int .i64 ((p : Int) + 1), .int .i64 0])) ∧ w = w' := by
  subst hline
  have hc := cnt_le l
  have hk2 : k ≤ 140737488355328 := by omega
  have H := Lib.hid hlen; have HR := Lib.hid hr; have HK := Lib.hid hk
  clear hlen hr hc hk
  go_enter Try.func9, Try.ntmps9
  go_wp2_with fail
  refine (Nth_yes A len cap k w l H.out HR.out (by omega) HK.out).mono ?_
  rintro e w' ⟨⟨p, hp, rfl⟩, rfl⟩
  have hpl := hp.lt
  have hp2 : p ≤ 140737488355328 := by have := H.out; omega
  have HP := Lib.hid hp
  clear hp hpl
  go_wp2_with fail
  go_ret2
  exact ⟨⟨p, HP.out, rfl⟩, rfl⟩
theorem Start_no (A : Option Addr) (len cap k : Nat) (line : Int) (w : World) (l : List Int) (hlen : l.length = len) (hr : RdB w w.heap.size A l) (hm : len ≤ 140737488355328) (hk : cnt l ≤ k) (hk2 : k + 1 ≤ 9223372036854775807) (hline : line = (k : Int) + 1) :
    Calls Try.prog 9 #[.slice A len cap, .int .i64 line] w fun e w' => e = .returned (.tuple #[.int .i64 0, .int .i64 2]) ∧ w = w' := by
  subst hline
  have H := Lib.hid hlen; have HR := Lib.hid hr; have HK := Lib.hid hk
  clear hlen hr hk
  go_enter Try.func9, Try.ntmps9
  go_wp2_with fail
  refine (Nth_no A len cap k w l H.out HR.out (by omega) HK.out (by omega)).mono ?_
  rintro e w' ⟨rfl, rfl⟩
  go_wp2_with fail
  go_ret2
  exact ⟨rfl, rfl⟩

def exb : List Int := [97, 10, 10, 98]
theorem exb_byt : Byt exb := fun n hn => by simp [exb] at hn; omega
theorem exb_rd (w : World) : RdB (w.alloc (.cells #[.int .u8 97, .int .u8 10, .int .u8 10, .int .u8 98] 5)) (w.alloc (.cells #[.int .u8 97, .int .u8 10, .int .u8 10, .int .u8 98] 5)).heap.size (some ⟨w.heap.size, 0, none⟩) exb := by
  intro k s hs
  refine ⟨w.heap.size, 0, rfl, by simp, ?_⟩
  rw [cell_new, Nat.zero_add]
  have e : (bcells exb)[k]? = some (.int .u8 s) := by rw [bcells_get, hs]; rfl
  simpa [bcells, exb] using e
theorem exb_nth : NthP exb 1 2 := ⟨rfl, rfl⟩
theorem awake_any (w : World) : Calls Try.prog 7 #[] w fun e w' => e = .returned (.bool true) ∧ Below w.heap.size w w' := by
  go_enter Try.func7, Try.ntmps7
  go_wp2_with fail
  refine (Line_yes (some ⟨w.heap.size, 0, none⟩) 4 4 2 _ exb rfl exb_byt (exb_rd w) (by omega) (by omega) (by omega)).mono ?_
  rintro e w1 ⟨rfl, hb⟩
  have hx : cnt (exb.take 2) = 1 := rfl
  rw [hx]
  have HB1 := Lib.hid ((Below.alloc (Below.refl w.heap.size w) (Nat.le_refl _) (.cells #[.int .u8 97, .int .u8 10, .int .u8 10, .int .u8 98] 5)).trans (hb.mono (by simp)))
  have HR1 := Lib.hid ((exb_rd w).up hb)
  clear hb hx
  go_wp2_with fail
  refine (Start_yes (some ⟨w.heap.size, 0, none⟩) 4 4 1 2 _ exb rfl HR1.out (by omega) (by decide) (by omega)).mono ?_
  rintro e w2 ⟨⟨p, hp, rfl⟩, rfl⟩
  obtain rfl := hp.uniq exb_nth
  clear hp
  go_wp2_with fail
  refine (Start_no (some ⟨w.heap.size, 0, none⟩) 4 4 2 3 _ exb rfl HR1.out (by omega) (by decide) (by omega) (by omega)).mono ?_
  rintro e w3 ⟨rfl, rfl⟩
  go_wp2_with fail
  refine (Count_any (some ⟨w.heap.size, 0, none⟩) 4 4 _ exb rfl exb_byt HR1.out).mono ?_
  rintro e w4 ⟨rfl, hb⟩
  have hx : cnt exb = 2 := rfl
  rw [hx]
  have HB4 := Lib.hid (below_up HB1.out hb)
  clear hb hx
  go_wp2_with fail
  go_ret
  exact ⟨rfl, HB4.out⟩
end Go.Proofs.Ytnfipflodhnbhaa
