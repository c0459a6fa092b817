/-
  What ranges.Normal answers: the right list of the same numbers; the list stays.
-/
import Derived.Test.YtobeppeadkoieaaRSortw
import Derived.Test.YtobeppeadkoieaaRWalkg
import Derived.BigRegion
namespace Go.Proofs.Ytobeppeadkoieaa.Rg
open Go.RowKit
theorem clip_snoc (l : List R) (s : R) : clip (l ++ [s]) = clip l ++ (if max s.1 0 < s.2 then [(max s.1 0, s.2)] else []) := by
  unfold clip
  rw [List.map_append, List.filter_append]
  congr 1
  simp only [List.map_cons, List.map_nil, List.filter_cons, List.filter_nil, decide_eq_true_eq]
theorem grown_setCell (w : World) (a : Addr) (v : Value) : w.grownBy (w.setCell a v) (some a.block) := by
  have hb := (Below.refl 0 w).setCell (p := a) (Nat.zero_le _) v
  exact ⟨hb.os, hb.tape, hb.output, hb.size, fun k _ hne => Below.heap_setCell w a v k (fun e => hne (by rw [e]))⟩
theorem Own.setBeside {w : World} {base : Nat} {A : Option Addr} {n cap : Nat} {l : List R} (h : Own w base A n cap l) (a : Addr) (v : Value) (ha : a.block < base ∨ w.heap.size ≤ a.block) : Own (w.setCell a v) base A n cap l := by
  refine ⟨h.1, h.2.kept (grown_setCell w a v) (.inr fun hh => ?_)⟩
  have := h.2.lt a.block hh
  omega
/-- A boxed row of the call's own. -/
structure Bx (w : World) (B : Nat) (A : Option Addr) (n c : Nat) (l : List R) : Prop where
  cell : w.cell? ⟨B, 0, none⟩ = some (.slice A n c)
  fr : w.frozen? ⟨B, 0, none⟩ = false
  own : Own w (B+1) A n c l
  lt : B < w.heap.size
theorem clip_len (l : List R) : (clip l).length ≤ l.length := by unfold clip; exact Nat.le_trans (List.length_filter_le _ _) (by simp)
set_option maxHeartbeats 800000 in
set_option maxRecDepth 100000 in
theorem Normal_any (A : Option Addr) (len cap : Nat) (w : World) (l : List R) (hlen : l.length = len) (hr : Rd w w.heap.size A l) (hI : IR l) (hm : len ≤ 1099511627776) :
    Calls Try.prog 34 #[.slice A len cap] w fun e w' => (∃ A' n c, e = .returned (.slice A' n c) ∧ Own w' w.heap.size A' n c (nl l)) ∧ Below w.heap.size w w' := by
  obtain ⟨i0, hi, hz0, hz1, hz2⟩ := info_parts info29
  have H := Lib.hid hlen; have HR := Lib.hid hr; have HI := Lib.hid hI
  clear hlen hr hI
  go_enter Try.func34, Try.ntmps34
  go_wp2_with fail
  generalize hBB : w.heap.size = BB at *
  have HB := Lib.hid hBB; clear hBB
  go_loopw [12] (fun i wr => ∃ k n A' c, k ≤ len ∧ n ≤ k ∧ i = .int .i64 k ∧ Bx wr BB A' n c (clip (l.take k)) ∧ Below BB w wr) (fun i _ => len - (intOf i).toNat)
  case atStart =>
    obtain rfl := HB.out
    exact ⟨0, 0, Option.none, 0, Nat.zero_le _, Nat.le_refl _, rfl, ⟨cell_new _ _ _ 0, by unfold World.frozen?; rw [heap_alloc_new]; simp, Own.nil _ _, by simp⟩, (Below.refl _ _).alloc (Nat.le_refl _) _⟩
  case round =>
    obtain ⟨k, n, A', c, hk, hnk, rfl, hbx, hb⟩ := hrel
    have g0 := hbx.cell
    have gf := hbx.fr
    have gl := hbx.lt
    have hsz : BB ≤ wr.heap.size := by omega
    by_cases hlt : k < len
    · obtain ⟨s, hs⟩ := get_some l k (by have := H.out; omega)
      obtain ⟨b2, off2, rfl, hb2, c0, c1⟩ := HR.out.below hb (Nat.le_refl _) k s hs
      have HX := Lib.hid hbx; have HBel := Lib.hid hb
      have ht : clip (l.take (k+1)) = clip (l.take k) ++ (if max s.1 0 < s.2 then [(max s.1 0, s.2)] else []) := by rw [take_snoc l k s hs, clip_snoc]
      by_cases h1 : max s.1 0 < s.2
      · rw [if_pos h1] at ht
        have HT := Lib.hid ht
        clear hbx hb hs ht
        go_wp2_with (at_builtin; refine wpList_append_own _ rfl (.tmp 25) (.tmp 27) 36 rfl (BB+1) 63 i0 _ 2 16 Try.underlying36 hi hz0 hz1 hz2 rfl (by decide) _ _ _ rfl ((HX.out.own.alloc _).alloc _).2 ⟨wr.heap.size + 1, 0, none⟩ 1 1 (cells [(max s.1 0, s.2)]) rfl rfl (new_one _ (max s.1 0, s.2) _ (by simp)) (cells_one_cell _) (by unfold maxLen; omega) (by omega) (by simp; omega) ?_)
        intro v' w1 hown' hgrow _
        obtain ⟨⟨A'', c'', hv, hown2⟩, _, hst, hz3, _⟩ := appL_step (w := wr) HX.out.own (Below.refl _ _) (by omega) (((Below.refl _ _).alloc (Nat.le_refl _) _).alloc (by simp) _) (m := 1) (K := [(max s.1 0, s.2)]) rfl hown' hgrow
        have e0 : w1.cell? ⟨BB, 0, none⟩ = some (.slice A' n c) := (hst.cell (p := ⟨BB, 0, none⟩) (by show BB < BB + 1; omega)).trans g0
        have ef : w1.frozen? ⟨BB, 0, none⟩ = false := (hst.frozen (p := ⟨BB, 0, none⟩) (by show BB < BB + 1; omega)).trans gf
        have HO2 := Lib.hid hown2; have HST := Lib.hid hst
        rw [hv]
        clear hgrow hown' hv hown2 hst hz3
        go_wp2_with fail
        go_roundw
        case rel =>
          have h2 := HST.out.size
          refine ⟨k+1, n+1, A'', c'', by omega, by omega, by go_num, ⟨World.cell?_setCell_same _ _ _ e0, by rw [World.frozen?_setCell]; exact ef, ?_, by simp; omega⟩, ((HBel.out.trans (HST.out.mono (by omega))).setCell (Nat.le_refl BB) _)⟩
          rw [HT.out]
          exact HO2.out.setBeside _ _ (.inl (by show BB < BB + 1; omega))
        case measure => simp [intOf]; omega
      · rw [if_neg h1, List.append_nil] at ht
        have HT := Lib.hid ht
        clear hbx hb hs ht
        go_wp2_with fail
        go_roundw
        case rel =>
          refine ⟨k+1, n, A', c, by omega, by omega, by go_num, ⟨(World.cell?_alloc_lt _ _ _ gl).trans g0, ?_, by rw [HT.out]; exact HX.out.own.alloc _, by simp; omega⟩, HBel.out.alloc hsz _⟩
          exact ((Below.refl (BB+1) wr).alloc (by omega) _).frozen (p := ⟨BB, 0, none⟩) (by show BB < BB + 1; omega) |>.trans gf
        case measure => simp [intOf]; omega
    · obtain rfl : k = len := by omega
      have e2 : l.take k = l := by rw [List.take_of_length_le (Nat.le_of_eq H.out)]
      rw [e2] at hbx
      have HX := Lib.hid hbx; have HBel := Lib.hid hb
      clear hbx hb hlt e2
      go_wp2_with fail
      refine (sort_any wr BB A' n c (clip l) gl g0 HX.out.own (by omega)).mono ?_
      rintro e w1 ⟨rfl, ⟨d, hp, hs, hrd⟩, hst⟩
      have e0 : w1.cell? ⟨BB, 0, none⟩ = some (.slice A' n c) := (hst.cell (p := ⟨BB, 0, none⟩) (by show BB < BB + 1; omega)).trans g0
      have hdl : d.length = n := hp.length_eq.trans HX.out.own.1
      have hB1 : Below BB w w1 := HBel.out.trans (hst.mono (by omega))
      have HE := Lib.hid (nl_eq l d hp hs)
      have HP := Lib.hid (show ∀ r ∈ d, 0 ≤ r.1 ∧ r.1 < r.2 from fun r hr => clip_ok l r (hp.mem_iff.1 hr))
      have HS := Lib.hid hs
      have HD := Lib.hid hdl; have HRD := Lib.hid hrd; have HB1 := Lib.hid hB1
      have hi64 : ∀ r ∈ d, r.2 ≤ 9223372036854775807 := by
        intro r hr
        obtain ⟨h1, _⟩ := List.mem_filter.1 (show r ∈ clip l from hp.mem_iff.1 hr)
        obtain ⟨q, hq, rfl⟩ := List.mem_map.1 h1
        exact (HI.out q hq).2.2
      have HU := Lib.hid hi64
      clear hp hs hrd hst hdl hB1 hi64 HX HBel HR g0 gf gl
      generalize hS : w1.heap.size = SS at *
      have hSB : BB ≤ SS := by have := HB1.out.size; have := HB.out; omega
      have HSS := Lib.hid hS
      clear hS
      go_wp2_with fail
      go_loopw [6, 36] (fun v i wr => ∃ j m A2 c2, j ≤ n ∧ m ≤ j ∧ i = .int .i64 j ∧ v = .slice A2 m c2 ∧ Own wr SS A2 m c2 ((d.take j).foldl mstep []) ∧ Below SS w1 wr) (fun _ i _ => n - (intOf i).toNat)
      case atStart => exact ⟨0, 0, _, _, Nat.zero_le _, Nat.le_refl _, rfl, rfl, Own.nil _ _, Below.refl _ _⟩
      case round =>
        obtain ⟨j, m, A2, c2, hj, hmj, rfl, rfl, hown, hb⟩ := hrel
        have HO := Lib.hid hown; have HBel := Lib.hid hb
        have hs2 : SS ≤ wr.heap.size := by have := hb.size; have := HSS.out; omega
        by_cases hlt2 : j < n
        · obtain ⟨s, hs⟩ := get_some d j (by have := HD.out; omega)
          obtain ⟨b2, off2, rfl, hb2, c0, c1⟩ := HRD.out.below hb (Nat.le_refl _) j s hs
          have ht : (d.take (j+1)).foldl mstep [] = mstep ((d.take j).foldl mstep []) s := by rw [take_snoc d j s hs, List.foldl_append]; rfl
          have hp0 := HP.out s (List.mem_of_getElem? hs)
          have hu0 := HU.out s (List.mem_of_getElem? hs)
          have HT := Lib.hid ht
          have hJ := hown.1
          clear hs ht hown hb
          generalize (d.take j).foldl mstep [] = O at *
          rcases snoc_cases O with rfl | ⟨L, t, rfl⟩
          · obtain rfl : m = 0 := by simpa using hJ.symm
            clear hJ
            go_wp2_with fail
            go_quiet (fail)
            go_wp2_with (at_builtin; refine wpList_append_own _ rfl (.tmp 67) (.tmp 69) 36 rfl SS 63 i0 _ 2 16 Try.underlying36 hi hz0 hz1 hz2 rfl (by decide) _ _ _ rfl (((HO.out.alloc _).drewN nq).alloc _).2 ⟨wr.heap.size + 1, 0, none⟩ 1 1 (cells [s]) rfl rfl (new_one _ s _ (by simp)) (cells_one_cell _) (by unfold maxLen; omega) (by omega) (by simp; omega) ?_)
            intro v' w2 hown' hgrow _
            obtain ⟨⟨A'', c'', hv, hown2⟩, hb3, _, _, _⟩ := appL_step HO.out HBel.out hs2 ((belowDrewN ((Below.refl _ _).alloc (Nat.le_refl _) _) nq).alloc (by simp) _) (m := 1) (K := [s]) rfl hown' hgrow
            rw [hv]
            clear hgrow hown' hv
            go_wp2_with fail
            go_roundw
            case rel => exact ⟨j+1, 0+1, A'', c'', by omega, by omega, by go_num, rfl, by rw [HT.out, mstep_nil]; exact hown2, hb3⟩
            case measure => simp [intOf]; omega
          · obtain ⟨q, rfl⟩ : ∃ q, m = q + 1 := ⟨L.length, by simpa using hJ.symm⟩
            obtain ⟨g, rfl, hg1, hg2, t0, t1, t2⟩ := HO.out.last
            clear hJ
            by_cases hc : s.1 ≤ t.2
            · have HC := Lib.hid (mstep_yes L t s hc)
              go_wp2_with fail
              go_quiet (fail)
              go_wp2_with fail
              go_region
              go_wp2_with fail
              go_roundw
              case rel =>
                refine ⟨j+1, q+1, some ⟨g, 0, Option.none⟩, c2, by omega, by omega, by go_num, rfl, ?_, ?_⟩
                · rw [HT.out, HC.out]
                  exact ((HO.out.alloc _).drewN _).setLast _
                · exact (belowDrewN (HBel.out.alloc hs2 _) _).setCell hg1 _
              case measure => simp [intOf]; omega
            · have HC := Lib.hid (mstep_no L t s hc)
              go_wp2_with fail
              go_quiet (fail)
              go_wp2_with (at_builtin; refine wpList_append_own _ rfl (.tmp 67) (.tmp 69) 36 rfl SS 63 i0 _ 2 16 Try.underlying36 hi hz0 hz1 hz2 rfl (by decide) _ _ _ rfl (((HO.out.alloc _).drewN nq).alloc _).2 ⟨wr.heap.size + 1, 0, none⟩ 1 1 (cells [s]) rfl rfl (new_one _ s _ (by simp)) (cells_one_cell _) (by unfold maxLen; omega) (by omega) (by simp; omega) ?_)
              intro v' w2 hown' hgrow _
              obtain ⟨⟨A'', c'', hv, hown2⟩, hb3, _, _, _⟩ := appL_step HO.out HBel.out hs2 ((belowDrewN ((Below.refl _ _).alloc (Nat.le_refl _) _) nq).alloc (by simp) _) (m := 1) (K := [s]) rfl hown' hgrow
              rw [hv]
              clear hgrow hown' hv
              go_wp2_with fail
              go_roundw
              case rel => exact ⟨j+1, q+1+1, A'', c'', by omega, by omega, by go_num, rfl, by rw [HT.out, HC.out]; exact hown2, hb3⟩
              case measure => simp [intOf]; omega
        · obtain rfl : j = n := by omega
          have e3 : d.take j = d := by rw [List.take_of_length_le (Nat.le_of_eq HD.out)]
          rw [e3, HE.out] at hown
          have HO := Lib.hid hown
          clear hown hb hlt2 e3
          go_wp2_with fail
          go_ret
          obtain rfl := HB.out
          exact ⟨⟨_, _, _, rfl, HO.out.mono hSB⟩, HB1.out.trans (HBel.out.mono hSB)⟩
end Go.Proofs.Ytobeppeadkoieaa.Rg
