/-
  What RangesMoved answers: true.
-/
import Derived.Test.YtmfokaicfcnhgaaLawa
namespace Go.Proofs.Ytmfokaicfcnhgaa
open Go.RowKit
theorem up_ir {by_ : Int} (h0 : 0 ≤ by_) (h1 : by_ ≤ 1099511627776) {l : List R} (h : ∀ r ∈ l, r.2 ≤ 1125899906842624) : IR (l.map (upR by_)) := fun s hs => by
  obtain ⟨r, hr, rfl⟩ := List.mem_map.1 hs
  have := h r hr
  unfold I64 upR
  simp only
  omega
theorem nl_le {l : List R} {m : Int} (h : ∀ r ∈ l, r.2 ≤ m) : ∀ r ∈ nl l, r.2 ≤ m := fun r hr => by
  have h1 := right_mem (nl_is l).1 hr
  obtain ⟨_, s, hs, h2, h3⟩ := ((nl_is l).2 (r.2 - 1)).1 ⟨r, hr, by omega, by omega⟩
  have := h s hs
  omega
set_option maxHeartbeats 4000000 in
set_option maxRecDepth 100000 in
theorem moved_walk (A0 : Option Addr) (len0 cap0 : Nat) (by_ : Int) (w : World) (l0 : List R) (hl0 : l0.length = len0) (hr0 : Rd w w.heap.size A0 l0) (hI0 : IR l0) (hno0 : A0 = none → len0 = 0 ∧ cap0 = 0) (hm0 : len0 ≤ 9223372036854775807) :
    Calls Try.prog 4 #[.slice A0 len0 cap0, .int .i64 by_] w fun e w' => e = .returned (.bool true) ∧ Below w.heap.size w w' := by
  have L0 := Lib.hid hl0; have R0_0 := Lib.hid hr0; have I0 := Lib.hid hI0; have N0 := Lib.hid hno0
  clear hl0 hr0 hI0 hno0
  by_cases h60 : len0 ≤ 60
  · have h60 := h60
    obtain ⟨i0, hi0', hz0, hz1, hz2⟩ := info_parts info29
    go_enter Try.func4, Try.ntmps4
    go_wp2_with fail
    refine (awake_any _).mono ?_
    rintro e w1 ⟨rfl, b1⟩
    have R0_1 := Lib.hid (R0_0.out.up b1)
    have B1 := Lib.hid b1
    clear b1 R0_0
    go_wp2_with fail
    refine (long_no A0 len0 cap0 none 0 0 _ (by omega) (by omega)).mono ?_
    rintro e wl ⟨rfl, rfl⟩
    by_cases hx1 : by_ < 0
    · go_wp2_with fail
      refine (awake_any _).mono ?_
      rintro e w2 ⟨rfl, b2⟩
      have R0_2 := Lib.hid (R0_1.out.up b2)
      have B2 := Lib.hid (below_up B1.out b2)
      clear b2 R0_1 B1
      go_wp2_with fail
      go_ret
      exact ⟨rfl, B2.out⟩
    by_cases hx2 : 1099511627776 < by_
    · go_wp2_with fail
      refine (awake_any _).mono ?_
      rintro e w2 ⟨rfl, b2⟩
      have R0_2 := Lib.hid (R0_1.out.up b2)
      have B2 := Lib.hid (below_up B1.out b2)
      clear b2 R0_1 B1
      go_wp2_with fail
      go_ret
      exact ⟨rfl, B2.out⟩
    go_wp2_with fail
    generalize hBB : w1.heap.size = BB at *
    have HBB := Lib.hid hBB
    have HRB : Hid (Rd w1 BB A0 l0) := R0_1
    clear hBB
    go_loopw [5, 6] (fun vu vi wr => ∃ (i : Nat) (U : Option Addr) (c : Nat), i ≤ len0 ∧ vi = .int .i64 i ∧ vu = .slice U i c ∧ Hid (Own wr BB U i c ((l0.map (upR by_)).take i)) ∧ Hid (∀ r ∈ l0.take i, r.2 ≤ 1125899906842624) ∧ Below BB w1 wr) (fun _ vi _ => len0 - (intOf vi).toNat)
    case atStart => exact ⟨0, Option.none, 0, Nat.zero_le _, rfl, rfl, Lib.hid (Own.nil _ _), Lib.hid (fun r hr => by simp at hr), Below.refl _ _⟩
    case round =>
      obtain ⟨i, U, c, hi, rfl, rfl, RO, HF, hbl⟩ := hrel
      have hsz : BB ≤ wr.heap.size := by have := hbl.size; have := HBB.out; omega
      have HBel := Lib.hid hbl
      by_cases hlt : i < len0
      · obtain ⟨s, hs⟩ := get_some l0 i (by have := L0.out; omega)
        obtain ⟨b, off, e9, hb', c0, c1⟩ := HRB.out.below hbl (Nat.le_refl _) i s hs
        cases e9
        have HM : Hid ((l0.map (upR by_)).take (i+1) = (l0.map (upR by_)).take i ++ [upR by_ s]) := Lib.hid (take_snoc _ i _ (by rw [List.getElem?_map, hs]; rfl))
        have HS := Lib.hid hs
        have hlti : (i : Int) < (len0 : Int) := by omega
        have hi0 : (0 : Int) ≤ (i : Int) := Int.natCast_nonneg _
        clear hs hbl
        go_wp2_with fail
        go_quiet (fail)
        by_cases hc : s.2 ≤ 1125899906842624
        · have hc2 : max s.2 0 ≤ 1125899906842624 := by omega
          have HF2 : Hid (∀ r ∈ l0.take (i+1), r.2 ≤ 1125899906842624) := Lib.hid (fun r hr => by
            rw [take_snoc l0 i s HS.out] at hr
            rcases List.mem_append.1 hr with hr | hr
            · exact HF.out r hr
            · simp at hr; subst hr; exact hc)
          go_wp2_with (at_builtin; refine wpList_append_own _ rfl (.tmp 47) (.tmp 56) 22 rfl BB 29 i0 _ 2 16 Try.underlying22 hi0' hz0 hz1 hz2 rfl (by decide) _ _ _ rfl ((RO.out.drewN nq).alloc _).2 ⟨wr.heap.size, 0, none⟩ 1 1 (cells [upR by_ s]) rfl rfl (new_one (wr.drewN nq) (upR by_ s) _ rfl) (cells_one_cell _) (by unfold maxLen; omega) (by omega) (by simp; omega) ?_)
          intro v' w4 hown' hgrow _
          obtain ⟨⟨A8, c8, hv, hown2⟩, hb3, _, _, _⟩ := appL_step RO.out HBel.out hsz ((belowDrewN (Below.refl _ _) nq).alloc (Nat.le_refl _) _) (m := 1) (K := [upR by_ s]) rfl hown' hgrow
          have HO8 := Lib.hid hown2
          rw [hv]
          clear hgrow hown' hv hown2
          go_wp2_with fail
          go_roundw
          case rel => exact ⟨i+1, A8, c8, by omega, by go_num, rfl, by rw [HM.out]; exact HO8, HF2, hb3⟩
          case measure => simp [intOf]; omega
        · have hc2 : ¬ max s.2 0 ≤ 1125899906842624 := by omega
          go_wp2_with fail
          go_ret
          exact ⟨rfl, below_up B1.out (by rw [HBB.out]; exact belowDrewN HBel.out nq)⟩
      · obtain rfl : i = len0 := by omega
        have e2 : l0.take i = l0 := by rw [List.take_of_length_le (Nat.le_of_eq L0.out)]
        have HA : Hid (∀ r ∈ l0, r.2 ≤ 1125899906842624) := Lib.hid (by have := HF.out; rwa [e2] at this)
        have RU : Hid (Own wr BB U i c (l0.map (upR by_))) := Lib.hid (by have := RO.out; rwa [List.take_of_length_le (by simp [L0.out])] at this)
        have RP : Hid (Rd wr wr.heap.size A0 l0) := Lib.hid ((HRB.out.below hbl (Nat.le_refl _)).more hsz)
        have RB : Hid (Below w.heap.size w wr) := Lib.hid (below_up B1.out (by rw [HBB.out]; exact hbl))
        have HUP := Lib.hid (up_is by_ (by omega) l0 HA.out)
        have HIU := Lib.hid (up_ir (by_ := by_) (by omega) (by omega) HA.out)
        have hcU := RU.out.cap
        have HOU := Lib.hid RU.out.rd
        have HLU := Lib.hid RU.out.1
        clear hbl e2 hlt RO HF HBel RU
        go_wp2_with fail
        refine (Normal_any A0 i cap0 _ l0 L0.out RP.out I0.out (by omega)).mono ?_
        rintro e wb ⟨⟨A9, n9, c9, rfl, o9⟩, bb⟩
        have L9 := Lib.hid o9.1
        have R9 := Lib.hid o9.rd
        have P2 := Lib.hid (RP.out.up bb); have U2 := Lib.hid (HOU.out.up bb); have B2 := Lib.hid (below_up RB.out bb)
        have h9 : n9 ≤ 60 := by rw [← L9.out]; exact nl_bd (by rw [L0.out]; exact h60)
        clear o9 bb RP HOU RB
        go_wp2_with fail
        refine (Normal_any U i c _ (l0.map (upR by_)) HLU.out U2.out HIU.out (by omega)).mono ?_
        rintro e wc ⟨⟨A10, n10, c10, rfl, o10⟩, bc⟩
        rw [HUP.out] at o10
        have R10 := Lib.hid o10.rd
        have hn : n10 = n9 := by have h1 := o10.1; have h2 := L9.out; unfold mv at h1; rw [List.length_map] at h1; omega
        subst hn
        have R9b := Lib.hid (R9.out.up bc); have P3 := Lib.hid (P2.out.up bc); have U3 := Lib.hid (U2.out.up bc); have B3 := Lib.hid (below_up B2.out bc)
        clear o10 bc R9 P2 U2 B2
        go_wp2_with fail
        go_loopw [11] (fun vj wr => ∃ (j q : Nat), j ≤ n10 ∧ vj = .int .i64 j ∧ wr = wc.drewN q) (fun vj _ => n10 - (intOf vj).toNat)
        case atStart => exact ⟨0, 0, Nat.zero_le _, rfl, rfl⟩
        case round =>
          obtain ⟨j, q, hj, rfl, rfl⟩ := hrel
          by_cases hlt : j < n10
          · obtain ⟨s, hs⟩ := get_some (nl l0) j (by have := L9.out; omega)
            have hs2 : (mv by_ (nl l0))[j]? = some (s.1 + by_, s.2 + by_) := by unfold mv; rw [List.getElem?_map, hs]; rfl
            obtain ⟨b, off, e1, hb', c0, c1⟩ := R9b.out j s hs
            obtain ⟨b2, off2, e2, hb2', k0, k1⟩ := R10.out j _ hs2
            obtain ⟨s0, s1, s2⟩ := nl_nn I0.out s (List.mem_of_getElem? hs)
            have s3 := nl_le HA.out s (List.mem_of_getElem? hs)
            have W1 : IntKind.i64.wrap (s.1 + by_) = s.1 + by_ := IntWalk.i64_in _ (by omega)
            have W2 : IntKind.i64.wrap (s.2 + by_) = s.2 + by_ := IntWalk.i64_in _ (by omega)
            have hlti : (j : Int) < (n10 : Int) := by omega
            cases e1; cases e2
            clear hs hs2
            go_wp2_with fail
            go_quiet (fail)
            go_wp2_with fail
            go_roundw
            case rel => exact ⟨j+1, q + nq, by omega, by go_num, rfl⟩
            case measure => simp [intOf]; omega
          · obtain rfl : j = n10 := by omega
            have P4 : Hid (Rd (wc.drewN q) (wc.drewN q).heap.size A0 l0) := Lib.hid (P3.out.drewN q)
            have U4 : Hid (Rd (wc.drewN q) (wc.drewN q).heap.size U (l0.map (upR by_))) := Lib.hid (U3.out.drewN q)
            have B4 : Hid (Below w.heap.size w (wc.drewN q)) := Lib.hid (belowDrewN B3.out q)
            have HT : Hid (tot (nl (l0.map (upR by_))) = tot (nl l0)) := Lib.hid (by rw [HUP.out, tot_mv])
            clear hlt P3 U3 B3 R9b R10
            generalize wc.drewN q = wd at *
            go_wp2_with fail
            refine (Total_any A0 i cap0 _ l0 L0.out P4.out I0.out (by omega)).mono ?_
            rintro e we ⟨rfl, be⟩
            have U5 := Lib.hid (U4.out.up be); have B5 := Lib.hid (below_up B4.out be)
            clear be P4 U4 B4
            go_wp2_with fail
            refine (Total_any U i c _ (l0.map (upR by_)) HLU.out U5.out HIU.out (by omega)).mono ?_
            rintro e wf ⟨rfl, bf⟩
            rw [HT.out]
            have B6 := Lib.hid (below_up B5.out bf)
            clear bf U5 B5
            go_wp2_with fail
            go_ret
            exact ⟨rfl, B6.out⟩
  · have hlong : 60 < len0 := by omega
    go_enter Try.func4, Try.ntmps4
    go_wp2_with fail
    refine (awake_any _).mono ?_
    rintro e w1 ⟨rfl, b1⟩
    have R0_1 := Lib.hid (R0_0.out.up b1)
    have B1 := Lib.hid b1
    clear b1 R0_0
    go_wp2_with fail
    refine (long_yes A0 len0 cap0 none 0 0 _ (.inl (by omega))).mono ?_
    rintro e wl ⟨rfl, rfl⟩
    go_wp2_with fail
    refine (awake_any _).mono ?_
    rintro e w2 ⟨rfl, b2⟩
    have R0_2 := Lib.hid (R0_1.out.up b2)
    have B2 := Lib.hid (below_up B1.out b2)
    clear b2 R0_1 B1
    go_wp2_with fail
    go_ret
    exact ⟨rfl, B2.out⟩
end Go.Proofs.Ytmfokaicfcnhgaa
