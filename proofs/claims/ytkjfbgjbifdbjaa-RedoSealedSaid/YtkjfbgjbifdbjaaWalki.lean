/-
  The reader of bytes: On and Zeros.
-/
import Derived.Test.YtkjfbgjbifdbjaaWalkh
namespace Go.Proofs.Ytkjfbgjbifdbjaa
open Go.RowKit
theorem On_any (w : World) (b off n c : Nat) (l : List Int) (hl : l.length = n) (hr : RdB w w.heap.size (some ⟨b, off, none⟩) l) (h1 : 1 ≤ n) (hn : n ≤ 1048576) :
    Calls Try.prog 23 #[.slice (some ⟨b, off, none⟩) n c] w fun e w' => (∃ rb A' c', e = .returned (.pointer (some ⟨rb, 0, none⟩)) ∧ Rdr w' rb A' n c' 0 l ∧ c' ≤ 9223372036854775807 ∧ w.heap.size ≤ rb) ∧ Below w.heap.size w w' := by
  obtain ⟨i0, hi, hz0, hz1, hz2⟩ := info_parts info5
  have H := Lib.hid hl
  have HR := Lib.hid hr
  have hlit : OwnB (w.alloc (.cells #[] 5)) w.heap.size (some ⟨w.heap.size, 0, none⟩) 0 0 [] := ⟨rfl, World.ownsRow_lit (base := w.heap.size) (e := 5) (size := 1) w #[] 0 (Nat.le_refl _) (by decide) rfl⟩
  have HLI := Lib.hid hlit
  clear hl hr hlit
  go_enter Try.func23, Try.ntmps23
  go_wp2_with (at_builtin; refine wpList_append_own _ rfl _ _ 25 rfl w.heap.size 5 i0 _ 1 1 Try.underlying25 hi hz0 hz1 hz2 rfl (by decide) _ 0 _ rfl HLI.out.2 ⟨b, off, none⟩ n c (bcells l) rfl (by rw [bcells, List.length_map, H.out, Nat.mul_one]) (RdB.cells (HR.out.alloc (Nat.le_refl _) _)) (bcells_one _) (by unfold maxLen; omega) (by omega) (by simp) ?_)
  intro v' w3 hown' hgrow _
  obtain ⟨A3, c3, hv⟩ := ext_of_ownB hown'
  rw [hv] at hown'
  have hO3 : OwnB w3 w.heap.size A3 n c3 l := ⟨H.out, by simpa [bcells] using hown'⟩
  obtain ⟨g3, rfl, _, hlt3, hcc, hcm⟩ := hO3.form (by omega)
  have HO3 := Lib.hid hO3
  have hg2 : w.grownBy w3 none := grown_trans (grown_alloc w _) hgrow (fun b h => by simp [Value.ownBlock] at h; right; omega)
  have hb3 : Below w.heap.size w w3 := ⟨hg2.os, hg2.tape, hg2.output, hg2.size, fun k hk => hg2.block k hk (by simp)⟩
  have HB3 := Lib.hid hb3
  have hsz := hb3.size
  have HX : Hid (∀ (cs : Array Value) (e : TypeId), cs[0]? = some (.slice (some ⟨g3, 0, none⟩) n c3) → cs[1]? = some (.int .i64 ((0 : Nat) : Int)) → Rdr (w3.alloc (.cells cs e)) w3.heap.size (some ⟨g3, 0, none⟩) n c3 0 l) := Lib.hid (fun cs e h0 h1 => by
    refine ⟨(cell_new _ _ _ _).trans h0, (cell_new _ _ _ _).trans h1, ?_, ?_, H.out, hcc, by simp⟩
    · have hh := heap_alloc_new w3 (.cells cs e)
      unfold World.frozen?
      rw [hh]; simp
    · exact HO3.out.rd.alloc (Nat.le_refl _) _)
  unfold maxLen at hcm
  rw [hv]
  clear hown' hgrow hv hO3 hg2 hb3
  go_wp2_with fail
  go_ret
  exact ⟨⟨w3.heap.size, _, c3, rfl, HX.out _ _ rfl rfl, by omega, hsz⟩, HB3.out.alloc hsz _⟩
theorem Zeros_any (w : World) (rb n c at_ : Nat) (A : Option Addr) (l : List Int) (h : Rdr w rb A n c at_ l) (hn : n ≤ 1048576) (hc : c ≤ 9223372036854775807) (m : Nat) (hm : at_ + m ≤ n) (hm1 : 1 ≤ m) (z : Int) (hz : (z = 0 ∧ ∀ x ∈ (l.drop at_).take m, x = 0) ∨ (z = 4 ∧ ∃ x ∈ (l.drop at_).take m, x ≠ 0)) :
    Calls Try.prog 26 #[.pointer (some ⟨rb, 0, none⟩), .int .i64 (m : Int)] w fun e w' => e = .returned (.int .i64 z) ∧ w.grownBy w' (some rb) := by
  have H := Lib.hid h
  have HZ := Lib.hid hz
  clear h hz
  go_enter Try.func26, Try.ntmps26
  go_wp2_with fail
  refine (next_any _ rb n c at_ A l H.out hn hc m hm hm1).mono ?_
  rintro e w1 ⟨⟨b1, o1, c1, rfl, hR⟩, k, rfl⟩
  have hl : ((l.drop at_).take m).length = m := by rw [List.length_take, List.length_drop, H.out.len]; omega
  have HL := Lib.hid hl
  have HR := Lib.hid (hR.drewN k)
  have hD : w.grownBy (w.drewN k) none := ⟨rfl, rfl, rfl, Nat.le_refl _, fun _ _ _ => rfl⟩
  have HD := Lib.hid hD
  have HM : Hid (w.grownBy ((w.drewN k).setCell ⟨rb, 1, none⟩ (.int .i64 ((at_ : Int) + (m : Int)))) (some rb)) := Lib.hid (by
    have hg := grown_setCell (w.drewN k) ⟨rb, 1, none⟩ (.int .i64 ((at_ : Int) + (m : Int)))
    exact ⟨hg.os, hg.tape, hg.output, hg.size, hg.block⟩)
  have d1 := (H.out.drewN k).c1
  have df := (H.out.drewN k).f1
  generalize (l.drop at_).take m = t at *
  clear hl hR hD
  go_wp2_with fail
  go_loopw [20] (fun i wr => ∃ q : Nat, q ≤ m ∧ i = .int .i64 q ∧ w.drewN k = wr ∧ ∀ i : Nat, i < q → t[i]? = some 0) (fun i _ => m - (intOf i).toNat)
  case atStart => exact ⟨0, by omega, rfl, rfl, fun i hi => by omega⟩
  case round =>
    obtain ⟨q, hq, rfl, rfl, hz⟩ := hrel
    have HQ := Lib.hid hz
    clear hz
    by_cases hlt : q < m
    · obtain ⟨s, hs⟩ := get_some t q (by rw [HL.out]; exact hlt)
      obtain ⟨b, off, hbo, hblt, hc0⟩ := HR.out q s hs
      cases hbo
      have HS := Lib.hid hs
      clear hs
      by_cases h0 : s = 0
      · subst h0
        go_wp2_with fail
        go_roundw
        case rel => exact ⟨q+1, by omega, by go_num, trivial, fun i hi => by
          by_cases he : i = q
          · rw [he]; exact HS.out
          · exact HQ.out i (by omega)⟩
        case measure => simp [intOf]; omega
      · have hz4 : z = 4 := by
          rcases HZ.out with ⟨_, hall⟩ | ⟨e, _⟩
          · exact absurd (hall s (List.mem_of_getElem? HS.out)) h0
          · exact e
        subst hz4
        go_wp2_with fail
        go_ret
        exact ⟨rfl, ⟨HD.out.os, HD.out.tape, HD.out.output, HD.out.size, fun _ _ _ => rfl⟩⟩
    · obtain rfl : m = q := by omega
      have hz0 : z = 0 := by
        rcases HZ.out with ⟨e, _⟩ | ⟨_, x, hx, hne⟩
        · exact e
        · obtain ⟨i, hi⟩ := List.getElem?_of_mem hx
          have hlt' := (List.getElem?_eq_some_iff.1 hi).1
          rw [HL.out] at hlt'
          rw [HQ.out i hlt'] at hi
          injection hi with hi
          exact absurd hi.symm hne
      subst hz0
      clear hlt
      go_wp2_with fail
      go_ret
      exact ⟨rfl, HM.out⟩
end Go.Proofs.Ytkjfbgjbifdbjaa
