/-
  That octavoref10.Same is true of two slices that read as one list.
-/
import Derived.Test.YtdpjblepcpjomaaSWalkd
import Derived.Laws.StructEq
namespace Go.Proofs.Ytdpjblepcpjomaa.Sc
open Go.RowKit
theorem Same_true (A : Option Addr) (len cap : Nat) (A2 : Option Addr) (len2 cap2 : Nat) (w : World) (l : List S) (hlen : l.length = len) (hr : Rd w w.heap.size A l) (hm : len ≤ 9223372036854775807) (hlen2 : len2 = len) (hr2 : Rd w w.heap.size A2 l) :
    Calls Try.prog 19 #[.slice A len cap, .slice A2 len2 cap2] w fun e w' => e = .returned (.bool true) ∧ Below w.heap.size w w' := by
  subst hlen2
  have H := Lib.hid hlen; have HR := Lib.hid hr; have HR2 := Lib.hid hr2
  clear hlen hr hr2
  go_enter Try.func19, Try.ntmps19
  go_wp2_with fail
  go_loopw [5] (fun i wr => ∃ k : Nat, k ≤ len2 ∧ i = .int .i64 k ∧ Below w.heap.size w wr) (fun i _ => len2 - (intOf i).toNat)
  case atStart => exact ⟨0, Nat.zero_le _, rfl, Below.refl _ _⟩
  case round =>
    obtain ⟨k, hk, rfl, hb⟩ := hrel
    by_cases hlt : k < len2
    · obtain ⟨s, hs⟩ := get_some l k (by have := H.out; omega)
      obtain ⟨b, off, rfl, hb', h0, h1, h2⟩ := HR.out.below hb (by omega) k s hs
      obtain ⟨b2, off2, rfl, hb2', g0, g1, g2⟩ := HR2.out.below hb (by omega) k s hs
      clear hs
      go_wp2_with fail
      go_quiet (fail)
      go_wp2_with fail
      go_roundw
      case rel => exact ⟨k+1, by omega, by go_num, belowDrewN hb _⟩
      case measure => simp [intOf]; omega
    · obtain rfl : k = len2 := by omega
      clear hlt
      go_wp2_with fail
      go_ret
      exact ⟨rfl, hb⟩
end Go.Proofs.Ytdpjblepcpjomaa.Sc
