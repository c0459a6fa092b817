/-
  What the reference's Same, Lent and Kept answer, and ranges.Right.
-/
import Derived.Test.YtobeppeadkoieaaRWalka
namespace Go.Proofs.Ytobeppeadkoieaa.Rg
open Go.RowKit
theorem info29 : (Try.prog.info? 63).map (fun i => (i.zero, i.size, i.bytes)) = some (some (.agg #[.int .i64 0, .int .i64 0]), 2, 16) := by kernel_rfl
theorem info3 : (Try.prog.info? 3).map (fun i => (i.zero, i.size, i.bytes)) = some (some (.int .i64 0), 1, 8) := by kernel_rfl
def mk2 : List R := [(77, 78), (79, 80)]
theorem Rd.left {w : World} {B : Nat} {A : Option Addr} {l m : List R} (h : Rd w B A (l ++ m)) : Rd w B A l := by
  intro k s hs
  exact h k s (by rw [List.getElem?_append_left ((List.getElem?_eq_some_iff.1 hs).1)]; exact hs)
theorem same_step {l m : List R} {k : Nat} {s t : R} (hs : l[k]? = some s) (ht : m[k]? = some t) (h : l.take k = m.take k) (e : s = t) : l.take (k+1) = m.take (k+1) := by
  rw [take_snoc l k s hs, take_snoc m k t ht, h, e]
theorem same_stop {l m : List R} {k : Nat} {s t : R} (hs : l[k]? = some s) (ht : m[k]? = some t) (e : s ≠ t) : decide (l = m) = false := by
  rw [decide_eq_false_iff_not]
  rintro rfl
  rw [hs] at ht
  exact e (Option.some.inj ht)
theorem pair_ne {s t : R} (h : s ≠ t) : (s.1 = t.1 ∧ (s.2 == t.2) = false) ∨ (s.1 == t.1) = false := by
  by_cases h1 : s.1 = t.1
  · exact .inl ⟨h1, by simp; exact fun h2 => h (Prod.ext h1 h2)⟩
  · exact .inr (by simpa using h1)
theorem Same_any (A : Option Addr) (len cap : Nat) (A2 : Option Addr) (len2 cap2 : Nat) (w : World) (l m : List R) (hlen : l.length = len) (hr : Rd w w.heap.size A l) (hm : len ≤ 9223372036854775807) (hlen2 : m.length = len2) (hr2 : Rd w w.heap.size A2 m) (hm2 : len2 ≤ 9223372036854775807) :
    Calls Try.prog 16 #[.slice A len cap, .slice A2 len2 cap2] w fun e w' => e = .returned (.bool (decide (l = m))) ∧ Below w.heap.size w w' := by
  have H := Lib.hid hlen; have HR := Lib.hid hr; have H2 := Lib.hid hlen2; have HR2 := Lib.hid hr2
  clear hlen hr hr2 hlen2
  by_cases hl : len = len2
  · subst hl
    go_enter Try.func16, Try.ntmps16
    go_wp2_with fail
    go_loopw [5] (fun i wr => ∃ k : Nat, k ≤ len ∧ i = .int .i64 k ∧ Hid (l.take k = m.take k) ∧ Below w.heap.size w wr) (fun i _ => len - (intOf i).toNat)
    case atStart => exact ⟨0, Nat.zero_le _, rfl, Lib.hid rfl, Below.refl _ _⟩
    case round =>
      obtain ⟨k, hk, rfl, HE, hb⟩ := hrel
      by_cases hlt : k < len
      · obtain ⟨s, hs⟩ := get_some l k (by have := H.out; omega)
        obtain ⟨t, ht⟩ := get_some m k (by have := H2.out; omega)
        obtain ⟨b, off, rfl, hb', h0, h1⟩ := HR.out.below hb (by omega) k s hs
        obtain ⟨b2, off2, rfl, hb2', g0, g1⟩ := HR2.out.below hb (by omega) k t ht
        by_cases e : s = t
        · have HS := Lib.hid (same_step hs ht HE.out e)
          subst e
          clear hs ht
          go_wp2_with fail
          go_quiet (fail)
          go_wp2_with fail
          go_roundw
          case rel => exact ⟨k+1, by omega, by go_num, HS, belowDrewN hb _⟩
          case measure => simp [intOf]; omega
        · have HS := Lib.hid (same_stop hs ht e)
          rcases pair_ne e with ⟨c1, c2⟩ | c1
          · rw [c1] at h0
            clear hs ht e c1
            go_wp2_with fail
            go_quiet (fail)
            go_wp2_with fail
            go_ret
            exact ⟨ret_bool HS.out.symm, belowDrewN hb _⟩
          · clear hs ht e
            go_wp2_with fail
            go_quiet (fail)
            go_wp2_with fail
            go_ret
            exact ⟨ret_bool HS.out.symm, belowDrewN hb _⟩
      · obtain rfl : k = len := by omega
        clear hlt
        have e2 : decide (l = m) = true := by
          have h := HE.out
          rw [List.take_of_length_le (Nat.le_of_eq H.out), List.take_of_length_le (Nat.le_of_eq H2.out)] at h
          simpa using h
        have HS := Lib.hid e2
        clear e2
        go_wp2_with fail
        go_ret
        exact ⟨ret_bool HS.out.symm, hb⟩
  · have e2 : decide (l = m) = false := by
      rw [decide_eq_false_iff_not]
      rintro rfl
      exact hl (H.out.symm.trans H2.out)
    have HS := Lib.hid e2
    clear e2
    have f1 : ((len : Int) == (len2 : Int)) = false := by simp; omega
    go_enter Try.func16, Try.ntmps16
    go_wp2_with fail
    go_ret
    exact ⟨ret_bool HS.out.symm, Below.refl _ _⟩
theorem new_two (w : World) (g : Nat) (hg : g = w.heap.size) : ∀ j u, (cells mk2)[j]? = some u → (w.alloc (.cells #[.int .i64 77, .int .i64 78, .int .i64 79, .int .i64 80] 63)).cell? ((⟨g, 0, none⟩ : Addr).add j) = some u := by
  subst hg
  intro j u hu
  have hadd : (⟨w.heap.size, 0, none⟩ : Addr).add j = ⟨w.heap.size, j, none⟩ := by unfold Addr.add; split <;> simp_all
  rw [hadd, cell_new]
  simpa [cells, mk2] using hu
open Classical in
/-- The ranges up to a place are the right list of their set. -/
noncomputable def rightB (l : List R) : Bool := decide (Right l)
theorem rightB_of {l : List R} (h : Right l) : rightB l = true := by unfold rightB; simpa using h
theorem rightB_not {l : List R} (h : ¬ Right l) : rightB l = false := by unfold rightB; simpa using h
theorem right_step {l : List R} {k : Nat} {s : R} (hs : l[k]? = some s) (h : Right (l.take k)) (h0 : lastTo (-1) (l.take k) < s.1) (h1 : s.1 < s.2) : Right (l.take (k+1)) ∧ lastTo (-1) (l.take (k+1)) = s.2 := by
  rw [take_snoc l k s hs]
  refine ⟨?_, lastTo_snoc _ _ _⟩
  unfold Right at *
  rw [right_append]
  exact ⟨h, h0, h1, trivial⟩
theorem right_stop {l : List R} {k : Nat} {s : R} (hs : l[k]? = some s) (h : ¬ (lastTo (-1) (l.take k) < s.1 ∧ s.1 < s.2)) : rightB l = false := by
  refine rightB_not fun hr => h ?_
  have e : l = l.take (k+1) ++ l.drop (k+1) := (List.take_append_drop ..).symm
  unfold Right at hr
  rw [e, right_append, take_snoc l k s hs, right_append] at hr
  exact ⟨hr.1.2.1, hr.1.2.2.1⟩
theorem lastTo_ge {l : List R} (h : Right l) : -1 ≤ lastTo (-1) l := by have := tot_le l (-1) h; omega
end Go.Proofs.Ytobeppeadkoieaa.Rg
