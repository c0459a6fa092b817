/-
  What scrap.size and scrap.May answer, for every list that reads as scraps (size: of a list that may be).
-/
import Derived.Test.YtdpjblepcpjomaaRows
import Derived.Test.YtdpjblepcpjomaaSBase
import Derived.Outline
import Derived.BigQuiet
import Derived.Deep.QuietTactic
import Derived.Deep.DeepCutAuto
import Derived.WalkLawsBesides
import Derived.Handy
namespace Go.Proofs.Ytdpjblepcpjomaa.Sc
open Go.RowKit
theorem mayP_take {l : List S} (h : MayP l) (k : Nat) : MayP (l.take k) := ⟨h.1.take k, by have := tot_take_le l h.1 k; have := h.2; omega⟩
theorem may_step {l : List S} {k : Nat} {s : S} (hs : l[k]? = some s) (h : MayP (l.take k)) (h0 : okS s) (h1 : tot (l.take k) + s.len ≤ 1099511627776) : MayP (l.take (k+1)) := by
  refine ⟨?_, by rw [tot_take_succ l k s hs]; exact h1⟩
  rw [take_snoc l k s hs]
  refine h.1.append ?_
  intro t ht
  simp at ht; subst ht; exact h0
theorem may_stop {l : List S} {k : Nat} {s : S} (hs : l[k]? = some s) (h : ¬ (okS s ∧ tot (l.take k) + s.len ≤ 1099511627776)) : ¬ MayP l := by
  intro hm
  apply h
  refine ⟨hm.1.at_ hs, ?_⟩
  have := (mayP_take hm (k+1)).2
  rw [tot_take_succ l k s hs] at this
  exact this
open Classical in
noncomputable def mayB (l : List S) : Bool := decide (MayP l)
theorem mayB_of {l : List S} (h : MayP l) : mayB l = true := by unfold mayB; simpa using h
theorem mayB_not {l : List S} (h : ¬ MayP l) : mayB l = false := by unfold mayB; simpa using h
theorem mayB_iff {l : List S} : mayB l = true ↔ MayP l := by unfold mayB; simp

theorem may_any (A : Option Addr) (len cap : Nat) (w : World) (l : List S) (hlen : l.length = len) (hr : Rd w w.heap.size A l) (hm : len ≤ 9223372036854775807) :
    Calls Try.prog 43 #[.slice A len cap] w fun e w' => e = .returned (.bool (mayB l)) ∧ Below w.heap.size w w' := by
  go_enter Try.func43, Try.ntmps43
  go_wp2
  have H := Lib.hid hlen; clear hlen
  go_loopw [3, 8] (fun s i wr => ∃ k : Nat, k ≤ len ∧ i = .int .i64 k ∧ s = .int .i64 (1099511627776 - tot (l.take k)) ∧ MayP (l.take k) ∧ Below w.heap.size w wr) (fun _ i _ => len - (intOf i).toNat)
  case atStart => exact ⟨0, Nat.zero_le _, rfl, rfl, ⟨fun s hs => by simp at hs, by simp [tot]⟩, Below.refl _ _⟩
  case round =>
    obtain ⟨k, hk, rfl, rfl, hmay, hb⟩ := hrel
    have p0 := tot_nonneg (l.take k) hmay.1
    have p1 := hmay.2
    by_cases hlt : k < len
    · obtain ⟨s, hs⟩ := get_some l k (by have := H.out; omega)
      have e1 := tot_take_succ l k s hs
      obtain ⟨b, off, rfl, hb', h0, h1, h2⟩ := hr.below hb (Nat.le_refl _) k s hs
      have E1 := Lib.hid e1
      have stp := Lib.hid (@may_stop l k s hs)
      have stq := Lib.hid (@may_step l k s hs hmay)
      have HM := Lib.hid hmay
      clear hr e1 hs hb' hmay
      generalize tot (l.take k) = T at *
      go_wp2
      case roundEnd =>
        go_roundw
        case rel =>
          refine ⟨k+1, by omega, by go_num, ?_, (by exact stq.out (by unfold okS; omega) (by omega)), hb.alloc hb.size _⟩
          rw [E1.out]; congr 1; omega
        case measure => simp [intOf]; omega
      all_goals
        go_ret
        exact ⟨ret_bool (mayB_not (stp.out (by unfold okS; omega))).symm, hb.alloc hb.size _⟩
    · obtain rfl : k = len := by omega
      clear hlt
      have e2 : l.take k = l := by rw [List.take_of_length_le (Nat.le_of_eq H.out)]
      rw [e2] at hmay
      have e3 := mayB_of hmay
      clear hmay
      go_wp2
      go_ret
      exact ⟨ret_bool e3.symm, hb⟩
end Go.Proofs.Ytdpjblepcpjomaa.Sc
