/-
  What long, ranges.Has, the reference's Has and Same answer, for every list that reads as ranges.
-/
import Derived.Test.YtobeppeadkoieaaRBase
import Derived.Test.YtobeppeadkoieaaRMarks
import Derived.Outline
import Derived.BigQuiet
import Derived.Deep.QuietTactic
import Derived.Deep.DeepCutAuto
import Derived.WalkLawsBesides
import Derived.Handy
namespace Go.Proofs.Ytobeppeadkoieaa.Rg
open Go.RowKit
open Classical in
noncomputable def hasB (l : List R) (n : Int) : Bool := decide (0 ≤ n ∧ In l n)
theorem hasB_iff {l : List R} {n : Int} : hasB l n = true ↔ 0 ≤ n ∧ In l n := by unfold hasB; simp
theorem hasB_of {l : List R} {n : Int} (h : 0 ≤ n ∧ In l n) : hasB l n = true := hasB_iff.2 h
theorem hasB_not {l : List R} {n : Int} (h : ¬ (0 ≤ n ∧ In l n)) : hasB l n = false := by unfold hasB; simpa using h
theorem has_stop {l : List R} {k : Nat} {s : R} (hs : l[k]? = some s) {n : Int} (h0 : 0 ≤ n) (h1 : s.1 ≤ n) (h2 : n < s.2) : hasB l n = true := hasB_of ⟨h0, s, List.mem_of_getElem? hs, h1, h2⟩
theorem has_step {l : List R} {k : Nat} {s : R} (hs : l[k]? = some s) {n : Int} (h : ¬ (0 ≤ n ∧ In (l.take k) n)) (h0 : ¬ (0 ≤ n ∧ s.1 ≤ n ∧ n < s.2)) : ¬ (0 ≤ n ∧ In (l.take (k+1)) n) := by
  rw [take_snoc l k s hs, in_append, in_one]
  rintro ⟨a, b | b⟩
  · exact h ⟨a, b⟩
  · exact h0 ⟨a, b.1, b.2⟩
theorem RefHas_any (A : Option Addr) (len cap : Nat) (n : Int) (w : World) (l : List R) (hlen : l.length = len) (hr : Rd w w.heap.size A l) (hm : len ≤ 9223372036854775807) :
    Calls Try.prog 37 #[.slice A len cap, .int .i64 n] w fun e w' => e = .returned (.bool (hasB l n)) ∧ w = w' := by
  have H := Lib.hid hlen; have HR := Lib.hid hr
  clear hlen hr
  go_enter Try.func37, Try.ntmps37
  go_wp2_with fail
  go_loopw [5] (fun i wr => ∃ k : Nat, k ≤ len ∧ i = .int .i64 k ∧ Hid (¬ (0 ≤ n ∧ In (l.take k) n)) ∧ w = wr) (fun i _ => len - (intOf i).toNat)
  case atStart => exact ⟨0, Nat.zero_le _, rfl, Lib.hid (fun h => in_nil n h.2), rfl⟩
  case round =>
    obtain ⟨k, hk, rfl, HN, rfl⟩ := hrel
    by_cases hlt : k < len
    · obtain ⟨s, hs⟩ := get_some l k (by have := H.out; omega)
      obtain ⟨b, off, rfl, hb', h0, h1⟩ := HR.out k s hs
      have HS := Lib.hid hs
      clear hs
      by_cases c0 : 0 ≤ n
      · by_cases c1 : s.1 ≤ n
        · by_cases c2 : n < s.2
          · have HT := Lib.hid (has_stop HS.out c0 c1 c2)
            go_wp2_with fail
            go_ret
            exact ⟨ret_bool HT.out.symm, rfl⟩
          · have HT := Lib.hid (has_step HS.out HN.out (fun h => c2 h.2.2))
            go_wp2_with fail
            go_roundw
            case rel => exact ⟨k+1, by omega, by go_num, HT, trivial⟩
            case measure => simp [intOf]; omega
        · have HT := Lib.hid (has_step HS.out HN.out (fun h => c1 h.2.1))
          go_wp2_with fail
          go_roundw
          case rel => exact ⟨k+1, by omega, by go_num, HT, trivial⟩
          case measure => simp [intOf]; omega
      · have HT := Lib.hid (has_step HS.out HN.out (fun h => c0 h.1))
        go_wp2_with fail
        go_roundw
        case rel => exact ⟨k+1, by omega, by go_num, HT, trivial⟩
        case measure => simp [intOf]; omega
    · obtain rfl : k = len := by omega
      clear hlt
      have e2 : l.take k = l := by rw [List.take_of_length_le (Nat.le_of_eq H.out)]
      have HT := Lib.hid (hasB_not (e2 ▸ HN.out))
      clear e2
      go_wp2_with fail
      go_ret
      exact ⟨ret_bool HT.out.symm, rfl⟩
end Go.Proofs.Ytobeppeadkoieaa.Rg
