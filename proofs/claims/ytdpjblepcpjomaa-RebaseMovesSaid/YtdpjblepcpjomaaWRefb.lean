/-
  What the reference's joined and Rescue answer (Rescue: of lists that may be, of at most 50000 bytes).
-/
import Derived.Test.YtdpjblepcpjomaaWRef
import Derived.Test.YtdpjblepcpjomaaWFirst
namespace Go.Proofs.Ytdpjblepcpjomaa.Rb
open Go.RowKit
set_option maxHeartbeats 1600000 in
set_option maxRecDepth 100000 in
theorem joined_any (A : Option Addr) (len cap : Nat) (w : World) (l : List R) (hlen : l.length = len) (hr : Rd w w.heap.size A l) (hm : len ≤ 1000000) :
    Calls Try.prog 33 #[.slice A len cap] w fun e w' => (∃ A' n c, e = .returned (.slice A' n c) ∧ Own w' w.heap.size A' n c (l.foldl jstep [])) ∧ Below w.heap.size w w' := by
  obtain ⟨i0, hi, hz0, hz1, hz2⟩ := info_parts info29
  have H := Lib.hid hlen; have HR := Lib.hid hr
  clear hlen hr
  go_enter Try.func33, Try.ntmps33
  go_wp2_with fail
  generalize hBB : w.heap.size = BB at *
  have HB := Lib.hid hBB; clear hBB
  go_loopw [3, 4] (fun v i wr => ∃ j m A2 c2, j ≤ len ∧ m ≤ j ∧ i = .int .i64 j ∧ v = .slice A2 m c2 ∧ Own wr BB A2 m c2 ((l.take j).foldl jstep []) ∧ Below BB w wr) (fun _ i _ => len - (intOf i).toNat)
  case atStart => exact ⟨0, 0, _, _, Nat.zero_le _, Nat.le_refl _, rfl, rfl, Own.nil _ _, Below.refl _ _⟩
  case round =>
    obtain ⟨j, m, A2, c2, hj, hmj, rfl, rfl, hown, hb⟩ := hrel
    have HO := Lib.hid hown; have HBel := Lib.hid hb
    have hs2 : BB ≤ wr.heap.size := by have := hb.size; have := HB.out; omega
    by_cases hlt2 : j < len
    · obtain ⟨s, hs⟩ := get_some l j (by have := H.out; omega)
      obtain ⟨b2, off2, rfl, hb2, c0, c1⟩ := HR.out.below hb (Nat.le_refl _) j s hs
      have ht : (l.take (j+1)).foldl jstep [] = jstep ((l.take j).foldl jstep []) s := by rw [take_snoc l j s hs, List.foldl_append]; rfl
      have HT := Lib.hid ht
      have hJ := hown.1
      clear hs ht hown hb
      generalize (l.take j).foldl jstep [] = O at *
      rcases snoc_cases O with rfl | ⟨L, t, rfl⟩
      · obtain rfl : m = 0 := by simpa using hJ.symm
        clear hJ
        go_wp2_with fail
        go_quiet (fail)
        go_wp2_with (at_builtin; refine wpList_append_own _ rfl _ _ 27 rfl BB 52 i0 _ 2 16 Try.underlying27 hi hz0 hz1 hz2 rfl (by decide) _ _ _ rfl ((HO.out.drewN nq).alloc _).2 ⟨wr.heap.size, 0, none⟩ 1 1 (cells [s]) rfl rfl (new_one _ s _ (by simp)) (cells_one_cell _) (by unfold maxLen; omega) (by omega) (by simp; omega) ?_)
        intro v' w2 hown' hgrow _
        obtain ⟨⟨A'', c'', hv, hown2⟩, hb3, _, _, _⟩ := appL_step HO.out HBel.out hs2 ((belowDrewN (Below.refl _ _) nq).alloc (Nat.le_refl _) _) (m := 1) (K := [s]) rfl hown' hgrow
        rw [hv]
        clear hgrow hown' hv
        go_wp2_with fail
        go_roundw
        case rel => exact ⟨j+1, 0+1, A'', c'', by omega, by omega, by go_num, rfl, by rw [HT.out, jstep_nil]; exact hown2, hb3⟩
        case measure => simp [intOf]; omega
      · obtain ⟨q, rfl⟩ : ∃ q, m = q + 1 := ⟨L.length, by simpa using hJ.symm⟩
        obtain ⟨g, rfl, hg1, hg2, t0, t1, t2⟩ := HO.out.last
        clear hJ
        by_cases hc : t.2 = s.1
        · have HC := Lib.hid (jstep_yes L t s hc)
          rw [hc] at t1
          clear hc
          go_wp2_with fail
          go_quiet (fail)
          go_wp2_with fail
          go_roundw
          case rel =>
            refine ⟨j+1, q+1, some ⟨g, 0, Option.none⟩, c2, by omega, by omega, by go_num, rfl, ?_, ?_⟩
            · rw [HT.out, HC.out]
              exact (HO.out.drewN _).setLast _
            · exact (belowDrewN HBel.out _).setCell hg1 _
          case measure => simp [intOf]; omega
        · have HC := Lib.hid (jstep_no L t s hc)
          have hc' : (t.2 == s.1) = false := by simpa using hc
          clear hc
          go_wp2_with fail
          go_quiet (fail)
          go_wp2_with (at_builtin; refine wpList_append_own _ rfl _ _ 27 rfl BB 52 i0 _ 2 16 Try.underlying27 hi hz0 hz1 hz2 rfl (by decide) _ _ _ rfl ((HO.out.drewN nq).alloc _).2 ⟨wr.heap.size, 0, none⟩ 1 1 (cells [s]) rfl rfl (new_one _ s _ (by simp)) (cells_one_cell _) (by unfold maxLen; omega) (by omega) (by simp; omega) ?_)
          intro v' w2 hown' hgrow _
          obtain ⟨⟨A'', c'', hv, hown2⟩, hb3, _, _, _⟩ := appL_step HO.out HBel.out hs2 ((belowDrewN (Below.refl _ _) nq).alloc (Nat.le_refl _) _) (m := 1) (K := [s]) rfl hown' hgrow
          rw [hv]
          clear hgrow hown' hv
          go_wp2_with fail
          go_roundw
          case rel => exact ⟨j+1, q+1+1, A'', c'', by omega, by omega, by go_num, rfl, by rw [HT.out, HC.out]; exact hown2, hb3⟩
          case measure => simp [intOf]; omega
    · obtain rfl : j = len := by omega
      have e3 : l.take j = l := by rw [List.take_of_length_le (Nat.le_of_eq H.out)]
      rw [e3] at hown
      have HO := Lib.hid hown
      clear hown hb hlt2 e3
      go_wp2_with fail
      go_ret
      obtain rfl := HB.out
      exact ⟨⟨_, _, _, rfl, HO.out⟩, HBel.out⟩
end Go.Proofs.Ytdpjblepcpjomaa.Rb
