/-
  What scrap.joined answers: the joined list of lists put together. Conditions: the scraps may be, their sum is at most 5 times 2^40, at most 1000 lists.
-/
import Derived.Test.YtdpjblepcpjomaaSWalkb
import Derived.Test.YtdpjblepcpjomaaSPlain
import Derived.BigRegion
namespace Go.Proofs.Ytdpjblepcpjomaa.Sc
open Go.RowKit

/-- A slice of slices of scraps that reads as a list of lists. -/
def RdL (w : World) (B : Nat) (A : Option Addr) (ls : List (List S)) : Prop :=
  ∀ k l, ls[k]? = some l → ∃ b off Ak ck, A = some ⟨b, off, none⟩ ∧ b < B ∧ w.cell? ⟨b, off + k, none⟩ = some (.slice Ak l.length ck) ∧ Rd w B Ak l
theorem RdL.below {w w' : World} {B B' : Nat} {A : Option Addr} {l : List (List S)} (h : RdL w B A l) (hb : Below B' w w') (hB : B ≤ B') : RdL w' B A l := by
  intro k l hl
  obtain ⟨b, off, Ak, ck, e, hlt, hc, hr⟩ := h k l hl
  exact ⟨b, off, Ak, ck, e, hlt, (hb.cell (p := ⟨b, off + k, none⟩) (show b < B' by omega)).trans hc, hr.below hb hB⟩
theorem flat_take {ls : List (List S)} {k : Nat} {l : List S} (h : ls[k]? = some l) : (ls.take (k+1)).flatten = (ls.take k).flatten ++ l := by
  rw [take_snoc ls k l h]; simp
theorem flat_ok {ls : List (List S)} {k : Nat} {l : List S} (h : ls[k]? = some l) (ho : Ok ls.flatten) : Ok l := fun s hs => ho s (by
  rw [List.mem_flatten]; exact ⟨l, List.mem_of_getElem? h, hs⟩)
theorem flat_split {ls : List (List S)} {k : Nat} {l : List S} (h : ls[k]? = some l) (j : Nat) : ls.flatten = (ls.take k).flatten ++ l.take j ++ (l.drop j ++ (ls.drop (k+1)).flatten) := by
  have e : ls = ls.take k ++ l :: ls.drop (k+1) := by
    obtain ⟨hk, rfl⟩ := List.getElem?_eq_some_iff.1 h
    rw [← List.drop_eq_getElem_cons hk, List.take_append_drop]
  conv => lhs; rw [e]
  rw [List.flatten_append, List.flatten_cons, List.append_assoc, ← List.append_assoc (l.take j), List.take_append_drop]

set_option maxHeartbeats 800000 in
theorem joined_any (A : Option Addr) (len cap : Nat) (w : World) (ls : List (List S)) (hlen : ls.length = len) (hr : RdL w w.heap.size A ls) (hL : Ok ls.flatten) (ht : tot ls.flatten ≤ 5497558138880) (hm : len ≤ 1000) :
    Calls Try.prog 47 #[.slice A len cap] w fun e w' => (∃ A' n c, e = .returned (.slice A' n c) ∧ Own w' w.heap.size A' n c (joinL ls.flatten)) ∧ Below w.heap.size w w' := by
  obtain ⟨i0, hi, hz0, hz1, hz2⟩ := info_parts info31
  go_enter Try.func47, Try.ntmps47
  go_wp2
  have H := Lib.hid hlen; clear hlen
  generalize hBB : w.heap.size = BB at *
  have HB := Lib.hid hBB; clear hBB
  have HL := Lib.hid hL; have HT := Lib.hid ht; clear hL ht
  go_loopw [3, 11] (fun v i wr => ∃ k A' n c, k ≤ len ∧ i = .int .i64 k ∧ v = .slice A' n c ∧ Own wr BB A' n c (joinL (ls.take k).flatten) ∧ Below BB w wr) (fun _ i _ => len - (intOf i).toNat)
  case atStart => exact ⟨0, _, _, _, Nat.zero_le _, rfl, rfl, Own.nil _ _, Below.refl _ _⟩
  case round =>
    obtain ⟨k, A', n, c, hk, rfl, rfl, hown, hb⟩ := hrel
    by_cases hlt : k < len
    · obtain ⟨l, hl⟩ := get_some ls k (by have := H.out; omega)
      have HO := Lib.hid hown
      have HBel := Lib.hid hb
      obtain ⟨b, off, Ak, ck, rfl, hb', h0, hrd⟩ := hr.below hb (by have := HB.out; omega) k l hl
      have HS := Lib.hid (flat_split hl)
      have HF := Lib.hid (flat_take hl)
      have HRd := Lib.hid hrd
      clear hr hrd hown hb hl
      obtain ⟨wo, hwo⟩ : ∃ wo : World, wo = wr := ⟨_, rfl⟩
      subst hwo
      generalize hpre : (ls.take k).flatten = pre at *
      clear hpre
      go_wp2
      go_loopw [3, 17] (fun v i wr => ∃ j A' n c, j ≤ l.length ∧ i = .int .i64 j ∧ v = .slice A' n c ∧ Own wr BB A' n c (joinL (pre ++ l.take j)) ∧ Below BB w wr ∧ Rd wr BB Ak l) (fun _ i _ => l.length - (intOf i).toNat)
      case atStart => exact ⟨0, _, _, _, Nat.zero_le _, rfl, rfl, by simpa using HO.out, HBel.out, HRd.out⟩
      case round =>
        obtain ⟨j, A', n, c, hj, rfl, rfl, hown, hb, hrd⟩ := hrel
        have HO := Lib.hid hown
        have HBel := Lib.hid hb
        have HRd := Lib.hid hrd
        by_cases hlt2 : j < l.length
        · obtain ⟨s, hs⟩ := get_some l j hlt2
          obtain ⟨b2, off2, rfl, hb2, c0, c1, c2⟩ := hrd j s hs
          have hsz : BB ≤ wr.heap.size := by have := hb.size; have := HB.out; omega
          have e1 : pre ++ l.take (j+1) = pre ++ l.take j ++ [s] := by rw [take_snoc l j s hs, List.append_assoc]
          have ok1 : Ok (pre ++ l.take j ++ [s]) := by
            have h1 := HL.out; rw [HS.out (j+1), e1] at h1; exact fun t ht => h1 t (List.mem_append_left _ ht)
          have tt1 : tot (pre ++ l.take j ++ [s]) ≤ 5497558138880 := by
            have h1 := HT.out
            have h2 := HL.out
            rw [HS.out (j+1), e1] at h1 h2
            rw [tot_append] at h1
            have := tot_nonneg (l.drop (j+1) ++ (ls.drop (k+1)).flatten) (fun t ht => h2 t (List.mem_append_right _ ht))
            omega
          have jl : j ≤ 5497558138880 := by
            have h1 := len_le_tot _ ok1
            simp only [List.length_append, List.length_take, List.length_cons, List.length_nil] at h1
            have : min j l.length = j := by omega
            rw [this] at h1
            omega
          have E1 := Lib.hid e1
          clear e1 hs
          generalize hX : pre ++ l.take j = X at *
          have okX : Ok X := fun t ht => ok1 t (List.mem_append_left _ ht)
          have oks : okS s := ok1 s (by simp)
          have hlenX := len_le_tot _ ok1
          have hlenJ := joinL_length X
          have okJ := joinL_ok okX
          have hJ := hown.1
          have totJ := tot_joinL X
          have hn : n ≤ 5497558138880 := by simp at hlenX; omega
          rw [tot_append] at tt1
          have sJ : joinL (X ++ [s]) = glue (joinL X) s := joinL_snoc X s
          have SJ := Lib.hid sJ
          clear ok1 hlenX hlenJ okX sJ hX hown hb hrd
          generalize joinL X = J at *
          rcases snoc_cases J with rfl | ⟨L, t, rfl⟩
          · obtain rfl : n = 0 := by simpa using hJ.symm
            clear hJ
            go_wp2
            go_quiet (fail)
            go_wp2_with (at_builtin; refine wpList_append_own _ rfl _ _ 22 rfl BB 56 i0 _ 3 24 Try.underlying22 hi hz0 hz1 hz2 rfl (by decide) _ _ _ rfl (((HO.out.alloc _).alloc _).drewN nq).2 ⟨wr.heap.size + 1, 0, none⟩ 1 1 (cells [s]) rfl rfl (new_one _ s _ (by simp)) (cells_one_cell _) (by unfold maxLen; omega) (by omega) (by simp; omega) ?_)
            intro v' w1 hown' hgrow _
            obtain ⟨⟨A'', c'', hv, hown2⟩, hb3, hst, hz3, hcl⟩ := app_step HO.out HBel.out hsz (belowDrewN ((Below.refl _ _).alloc (Nat.le_refl _) _) nq |>.alloc (by simp) _) hown' hgrow
            have rd2 := HRd.out.below hst (Nat.le_refl _)
            rw [hv]
            clear hcl hgrow hown' hv
            go_wp2
            go_roundw
            case rel => exact ⟨j+1, A'', (0+1), c'', by omega, by go_num, rfl, by rw [E1.out, SJ.out, glue_nil]; exact hown2, hb3, rd2⟩
            case measure => simp [intOf]; omega
          · obtain ⟨m, rfl⟩ : ∃ m, n = m + 1 := ⟨L.length, by simpa using hJ.symm⟩
            obtain ⟨g, rfl, hg1, hg2, t0, t1, t2, t3⟩ := HO.out.last
            clear hJ
            obtain ⟨u1, u2, u3, u4, u5⟩ := okJ t (by simp)
            obtain ⟨v1, v2, v3, v4, v5⟩ := oks
            by_cases ca : t.src = s.src
            · by_cases cb : t.at_ + t.len = s.at_
              · have f1 : (t.src == s.src) = true := by simpa using ca
                have f2 : (t.at_ + t.len == s.at_) = true := by simpa using cb
                have f3 : t.len + s.len ≤ 1099511627776 := by omega
                have CA := Lib.hid ca
                have CB := Lib.hid cb
                clear ca cb
                go_wp2
                go_quiet (fail)
                go_wp2
                go_region
                go_wp2
                go_roundw
                case rel =>
                  refine ⟨j+1, some ⟨g, 0, none⟩, m+1, c, by omega, by go_num, rfl, ?_, ?_, ?_⟩
                  · rw [E1.out, SJ.out, glue_yes _ _ _ ⟨CA.out, CB.out⟩]
                    exact ((HO.out.alloc _).drewN _).setLast _
                  · exact (belowDrewN (HBel.out.alloc hsz _) _).setCell hg1 _
                  · exact HRd.out.below ((belowDrewN ((Below.refl _ _).alloc hsz _) _).setCell hg1 _) (Nat.le_refl _)
                case measure => simp [intOf]; omega
              · have f1 : (t.src == s.src) = true := by simpa using ca
                have f2 : (t.at_ + t.len == s.at_) = false := by simpa using cb
                have CA := Lib.hid ca
                have CB := Lib.hid cb
                clear ca cb
                go_wp2
                go_quiet (fail)
                go_wp2_with (at_builtin; refine wpList_append_own _ rfl _ _ 22 rfl BB 56 i0 _ 3 24 Try.underlying22 hi hz0 hz1 hz2 rfl (by decide) _ _ _ rfl (((HO.out.alloc _).alloc _).drewN nq).2 ⟨wr.heap.size + 1, 0, none⟩ 1 1 (cells [s]) rfl rfl (new_one _ s _ (by simp)) (cells_one_cell _) (by unfold maxLen; omega) (by omega) (by simp; omega) ?_)
                intro v' w1 hown' hgrow _
                obtain ⟨⟨A'', c'', hv, hown2⟩, hb3, hst, hz3, hcl⟩ := app_step HO.out HBel.out hsz (belowDrewN ((Below.refl _ _).alloc (Nat.le_refl _) _) nq |>.alloc (by simp) _) hown' hgrow
                have rd2 := HRd.out.below hst (Nat.le_refl _)
                rw [hv]
                clear hcl hgrow hown' hv
                go_wp2
                go_roundw
                case rel => exact ⟨j+1, A'', (m+1+1), c'', by omega, by go_num, rfl, by rw [E1.out, SJ.out, glue_no _ _ _ (fun h => CB.out h.2)]; exact hown2, hb3, rd2⟩
                case measure => simp [intOf]; omega
            · have f1 : (t.src == s.src) = false := by simpa using ca
              have CA := Lib.hid ca
              clear ca
              go_wp2
              go_quiet (fail)
              go_wp2_with (at_builtin; refine wpList_append_own _ rfl _ _ 22 rfl BB 56 i0 _ 3 24 Try.underlying22 hi hz0 hz1 hz2 rfl (by decide) _ _ _ rfl (((HO.out.alloc _).alloc _).drewN nq).2 ⟨wr.heap.size + 1, 0, none⟩ 1 1 (cells [s]) rfl rfl (new_one _ s _ (by simp)) (cells_one_cell _) (by unfold maxLen; omega) (by omega) (by simp; omega) ?_)
              intro v' w1 hown' hgrow _
              obtain ⟨⟨A'', c'', hv, hown2⟩, hb3, hst, hz3, hcl⟩ := app_step HO.out HBel.out hsz (belowDrewN ((Below.refl _ _).alloc (Nat.le_refl _) _) nq |>.alloc (by simp) _) hown' hgrow
              have rd2 := HRd.out.below hst (Nat.le_refl _)
              rw [hv]
              clear hcl hgrow hown' hv
              go_wp2
              go_roundw
              case rel => exact ⟨j+1, A'', (m+1+1), c'', by omega, by go_num, rfl, by rw [E1.out, SJ.out, glue_no _ _ _ (fun h => CA.out h.1)]; exact hown2, hb3, rd2⟩
              case measure => simp [intOf]; omega
        · obtain rfl : j = l.length := by omega
          clear hlt2
          have e2 : pre ++ l.take l.length = (ls.take (k+1)).flatten := by rw [HF.out, List.take_length]
          have E2 := Lib.hid e2
          clear e2
          go_wp2
          go_roundw
          case rel => exact ⟨k+1, A', n, c, by omega, by go_num, rfl, by rw [← E2.out]; exact HO.out, HBel.out⟩
          case measure => simp [intOf]; omega
    · obtain rfl : k = len := by omega
      clear hlt
      have e2 : ls.take k = ls := by rw [List.take_of_length_le (Nat.le_of_eq H.out)]
      rw [e2] at hown
      go_wp2
      go_ret
      obtain rfl := HB.out
      exact ⟨⟨_, _, _, rfl, hown⟩, hb⟩
end Go.Proofs.Ytdpjblepcpjomaa.Sc
