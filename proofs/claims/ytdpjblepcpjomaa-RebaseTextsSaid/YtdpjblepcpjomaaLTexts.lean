/-
  That RebaseTexts is true, for all files, targets and lists of parts.
-/
import Derived.Test.YtdpjblepcpjomaaPText
import Derived.Test.YtdpjblepcpjomaaVRows
import Derived.Test.YtdpjblepcpjomaaLAwake
import Derived.Test.YtdpjblepcpjomaaSRefd
import Derived.Deep.RegionHeld3
import Derived.Deep.AppendLies
namespace Go.Proofs.Ytdpjblepcpjomaa.Rb
open Go.RowKit
set_option maxHeartbeats 3200000 in
set_option maxRecDepth 100000 in
theorem texts_walk (Ao At : Option Addr) (co ct : Nat) (A1 : Option Addr) (len1 cap1 : Nat) (A2 : Option Addr) (len2 cap2 : Nat) (w : World) (orig tl : List Int) (p1 : List S) (p2 : List (List S)) (N M : Nat) (hoN : orig.length = N) (htM : tl.length = M)
    (ho : Sc.RdB w w.heap.size Ao orig) (ht : Sc.RdB w w.heap.size At tl) (hco : N ≤ co) (hco2 : co ≤ 9223372036854775807) (hct : M ≤ ct) (hct2 : ct ≤ 9223372036854775807)
    (hl1 : p1.length = len1) (hr1 : Sc.Rd w w.heap.size A1 p1) (hm1 : len1 ≤ 9223372036854775807) (hw1 : ∀ s ∈ p1, -9223372036854775808 ≤ s.src ∧ s.src ≤ 9223372036854775807 ∧ -9223372036854775808 ≤ s.at_ ∧ s.at_ ≤ 9223372036854775807 ∧ -9223372036854775808 ≤ s.len ∧ s.len ≤ 9223372036854775807)
    (hl2 : p2.length = len2) (hr2 : RdLN w w.heap.size A2 p2) (_hm2 : len2 ≤ 9223372036854775807) :
    Calls Try.prog 5 #[.agg #[.slice Ao N co, .slice At M ct], .slice A1 len1 cap1, .slice A2 len2 cap2] w fun e w' => e = .returned (.bool true) ∧ Below w.heap.size w w' := by
  have LN := Lib.hid hoN; have LM := Lib.hid htM
  have OO_0 := Lib.hid ho; have TT_0 := Lib.hid ht
  have L1 := Lib.hid hl1; have P1_0 := Lib.hid hr1; have W1 := Lib.hid hw1
  have L2 := Lib.hid hl2; have P2_0 := Lib.hid hr2
  obtain ⟨i1, hj, hy0, hy1, hy2⟩ := info_parts info22
  obtain ⟨i5, hi5, hx0, hx1, hx2⟩ := info_parts Sc.info5
  clear hl1 hr1 hw1 hl2 hr2 ho ht hoN htM
  by_cases hN : N ≤ 2000
  · have dN : decide (2000 < (N : Int)) = false := decide_eq_false (by omega)
    by_cases hM : M ≤ 2000
    · have dM : decide (2000 < (M : Int)) = false := decide_eq_false (by omega)
      by_cases h8 : len2 ≤ 8
      · have d8 : decide (8 < (len2 : Int)) = false := decide_eq_false (by omega)
        go_enter Try.func5, Try.ntmps5
        go_wp2_with fail
        have b1 : Below w.heap.size w (w.alloc (.cells #[.slice Ao N co, .slice At M ct] 43)) := (Below.refl _ _).alloc (Nat.le_refl _) _
        have F_1 := Lib.hid (FAt.new w (.slice Ao N co) (.slice At M ct) 43)
        have OO_1 := Lib.hid (OO_0.out.up b1)
        have TT_1 := Lib.hid (TT_0.out.up b1)
        have P1_1 := Lib.hid (P1_0.out.up b1)
        have P2_1 := Lib.hid (P2_0.out.up b1)
        have B_1 := Lib.hid (b1)
        clear b1 OO_0 TT_0 P1_0 P2_0
        have zeq1 : (w.alloc (.cells #[.slice Ao N co, .slice At M ct] 43)).heap.size = w.heap.size + 1 := by simp
        generalize w.alloc (.cells #[.slice Ao N co, .slice At M ct] 43) = w1 at *
        refine (awake_any _).mono ?_
        rintro e w2 ⟨rfl, b2⟩
        have OO_2 := Lib.hid (OO_1.out.up b2)
        have TT_2 := Lib.hid (TT_1.out.up b2)
        have P1_2 := Lib.hid (P1_1.out.up b2)
        have P2_2 := Lib.hid (P2_1.out.up b2)
        have F_2 := Lib.hid (F_1.out.up b2)
        have B_2 := Lib.hid (below_up B_1.out b2)
        have c0 := F_2.out.c0
        have c1 := F_2.out.c1
        clear b2 OO_1 TT_1 P1_1 P2_1 F_1 B_1
        go_wp2_with fail
        refine (list_any A1 len1 cap1 N M _ p1 L1.out P1_2.out hm1 W1.out hN hM).mono ?_
        rintro e w3 ⟨⟨T, AT, nT, cT, rfl, hT1, fT, oT⟩, b3⟩
        clear c0 c1
        have OO_3 := Lib.hid (OO_2.out.up b3)
        have TT_3 := Lib.hid (TT_2.out.up b3)
        have P1_3 := Lib.hid (P1_2.out.up b3)
        have P2_3 := Lib.hid (P2_2.out.up b3)
        have F_3 := Lib.hid (F_2.out.up b3)
        have B_3 := Lib.hid (below_up B_2.out b3)
        have RT_3 := Lib.hid (oT.rd)
        have KT := Lib.hid oT.1
        have FT := Lib.hid fT
        have hcT := oT.cap
        unfold maxLen at hcT
        clear oT fT
        clear b3 OO_2 TT_2 P1_2 P2_2 F_2 B_2
        go_wp2_with fail
        clear P1_3
        have hgB : w.heap.size < w3.heap.size := F_3.out.lt
        generalize hBB : w3.heap.size = BB at *
        have HB := Lib.hid hBB; clear hBB
        go_loopw [8, 9] (fun v i wr => ∃ k A' c vs ALL, k ≤ len2 ∧ i = .int .i64 (k : Nat) ∧ v = .slice A' k c ∧ Hid (OwnV wr BB A' k c vs) ∧ Hid (LVs wr (Value.slice A' k c).ownBlock vs [] ALL) ∧ Hid (ALL.length = k) ∧ Hid (∀ l ∈ ALL, FewP N M l ∧ l.length ≤ 30) ∧ Hid (Below BB w3 wr)) (fun _ i _ => len2 - (intOf i).toNat)
        case atStart => exact ⟨0, none, 0, [], [], Nat.zero_le _, rfl, rfl, Lib.hid (OwnV.nil _ _), Lib.hid (LVs.nil _ _ _ _), Lib.hid rfl, Lib.hid (fun l h => by simp at h), Lib.hid (Below.refl _ _)⟩
        case round =>
          obtain ⟨k, A', c, vs, ALL, hk, rfl, rfl, hown, hlv, hal, hfw, hb⟩ := hrel
          have hsz : BB ≤ wr.heap.size := by have := hb.out.size; have := HB.out; omega
          by_cases hlt : k < len2
          · obtain ⟨l, hl⟩ := Sc.get_some p2 k (by have := L2.out; omega)
            obtain ⟨b, off, Ak, ck, rfl, hb', d0, hnk, hmk, hwf, hrd⟩ := P2_3.out.below hb.out (by have := HB.out; omega) k l hl
            have f0 := (hb.out.cell (p := ⟨w.heap.size, 0, none⟩) hgB).trans F_3.out.c0
            have f1 := (hb.out.cell (p := ⟨w.heap.size, 1, none⟩) hgB).trans F_3.out.c1
            have hbz : b < wr.heap.size := by have := HB.out; omega
            have hgz : w.heap.size < wr.heap.size := by omega
            have hbd := Below.drew1 (Below.refl wr.heap.size wr)
            have C1 := Lib.hid (list_any Ak l.length ck N M wr.drew l rfl ((hrd.more hsz).up hbd) hmk (fun s hs => by obtain ⟨g0, g1, g2⟩ := hwf s hs; exact ⟨g0.1, g0.2, g1.1, g1.2, g2.1, g2.2⟩) hN hM)
            have hn0 : (Value.slice A' k c).ownBlock ≠ some w.heap.size := fun e => by have := (hown.out.2.lt _ e).1; omega
            have hnb : (Value.slice A' k c).ownBlock ≠ some b := fun e => by have := (hown.out.2.lt _ e).1; omega
            have HD := Lib.hid hbd
            clear hl hnk hwf hrd hbd
            go_wp2_with fail
            go_region_held3 (fun w' => w'.cell? ⟨w.heap.size, 0, none⟩ = some (.slice Ao N co) ∧ w'.cell? ⟨w.heap.size, 1, none⟩ = some (.slice At M ct) ∧ w'.cell? ⟨b, off + k, none⟩ = some (.slice Ak l.length ck))
              (first
                | go_keep
                | (exact ⟨(hb5.cell (p := ⟨w.heap.size, 0, none⟩) hgz).trans f0, (hb5.cell (p := ⟨w.heap.size, 1, none⟩) hgz).trans f1, (hb5.cell (p := ⟨b, off + k, none⟩) hbz).trans d0⟩)
                | (go_split_ands
                   refine ⟨?_, ?_, ?_⟩
                   · (rw [hgrow.cell_far _ (by simp; omega) (Ne.symm hn0)]; assumption)
                   · (rw [hgrow.cell_far _ (by simp; omega) (Ne.symm hn0)]; assumption)
                   · (rw [hgrow.cell_far _ (by simp; omega) (Ne.symm hnb)]; assumption)))
              (first
                | (go_at_call_of 21 (Value.slice Ak l.length ck); refine C1.out.mono ?_; rintro e w5 ⟨⟨L5, A5, n5, c5, rfl, hn5, hf5, ho5⟩, hb5⟩; have HB5 := Lib.hid (HD.out.trans hb5); have RO5 := Lib.hid (hown.out.below HB5.out (Nat.le_refl _)); have hz5 := HB5.out.size)
                | (refine step_append_lies _ (by rfl) _ _ _ (by rfl) BB 22 i1 _ 1 24 Try.underlying23 hj hy0 hy1 hy2 rfl (by omega) (.slice A' k c) k vs (by rfl) (RO5.out.2.alloc _) ⟨w5.heap.size, 0, none⟩ 1 1 [.slice A5 n5 c5] (by rfl) (by rfl) (newv_one w5 _ _ rfl) (by intro u hu; simp at hu; subst hu; rfl) (by omega) (by unfold maxLen; omega) (by omega) (by simp; omega) (w5.heap.size + 1) (by simp) ?_; intro gg c8 w4 hown' hgrow hat hlt9))
            have hva : Below w5.heap.size w5 (w5.alloc (.cells #[.slice A5 n5 c5] 22)) := (Below.refl _ _).alloc (Nat.le_refl _) _
            obtain ⟨⟨A8, c8', hv, hown2⟩, hb3, _, _, _⟩ := appV_step RO5.out (hb.out.trans (HB5.out.mono hsz)) (by omega) hva (m := 1) (K := [.slice A5 n5 c5]) rfl hown' hgrow
            simp only [Value.slice.injEq, true_and] at hv
            obtain ⟨rfl, rfl⟩ := hv
            have hc5 := ho5.cap
            unfold maxLen at hc5
            have hL5 : L5.length = n5 := ho5.1
            have hx5 : LV w5 (Value.slice A' k c).ownBlock (.slice A5 n5 c5) [] L5 := ⟨A5, c5, by rw [hL5], by simp; omega, by omega, fun hne b' off' e => by
              obtain ⟨s, hs⟩ := Sc.get_some (L5 ++ []) 0 (by cases hx : L5 ++ [] with
                | nil => exact absurd hx hne
                | cons => simp)
              rw [List.append_nil] at hs
              obtain ⟨g, hg, hg1, _⟩ := ho5.form (by have := (List.getElem?_eq_some_iff.1 hs).1; omega)
              rw [hg] at e; cases e
              intro e; have := (hown.out.2.lt _ e.symm).2
              have : wr.heap.size ≤ b' := hg1
              omega, by rw [List.append_nil]; exact ho5.rd⟩
            have hnew := Lib.hid (LVs.grown (row' := (Value.slice (some ⟨gg, 0, none⟩) (k+1) c8).ownBlock) ((hlv.out.up HB5.out).up hva) (by rw [hown.out.1, hal.out]) (hx5.up hva) hgrow (by
              rcases hat with h | h
              · exact .inl h.symm
              · exact .inr (by rw [h]; simp [Value.ownBlock])))
            have hfw2 : ∀ l' ∈ ALL ++ [L5], FewP N M l' ∧ l'.length ≤ 30 := by
              intro l' hl'
              rcases List.mem_append.1 hl' with h | h
              · exact hfw.out l' h
              · simp at h; subst h; exact ⟨hf5, by omega⟩
            have HFW := Lib.hid hfw2
            have HO9 := Lib.hid hown2; have HB9 := Lib.hid hb3
            have HAL := Lib.hid (show (ALL ++ [L5]).length = k + 1 by simp [hal.out])
            clear hown' hgrow hown2 hb3 hat hx5 hva ho5 hf5 hfw2 hlv hown hal hfw
            go_wp2_with fail
            go_roundw
            case rel => exact ⟨k+1, _, c8, _, _, by omega, by go_num, rfl, HO9, hnew, HAL, HFW, HB9⟩
            case measure => simp [intOf]; omega
          · obtain rfl : k = len2 := by omega
            clear hlt
            obtain rfl := HB.out
            clear HB
            have hKT : T.length = nT := KT.out
            have hlvT : LV wr (Value.slice A' k c).ownBlock (.slice AT nT cT) [] T := ⟨AT, cT, by rw [hKT], by simp; omega, by omega, fun hne b' off' e => by
              obtain ⟨s, hs⟩ := Sc.get_some (T ++ []) 0 (by cases hx : T ++ [] with
                | nil => exact absurd hx hne
                | cons => simp)
              rw [List.append_nil] at hs
              obtain ⟨g, o, hg, hg1, _⟩ := RT_3.out 0 s hs
              rw [hg] at e; cases e
              intro e; have := (hown.out.2.lt _ e.symm).1
              omega, by rw [List.append_nil]; exact RT_3.out.up hb.out⟩
            have HLT := Lib.hid hlvT
            clear hlvT
            go_wp2_with (at_builtin; refine wpList_append_block rfl _ _ 23 rfl w3.heap.size 22 i1 _ 1 24 Try.underlying23 hj hy0 hy1 hy2 rfl (by decide) _ _ _ rfl (hown.out.alloc _).2 ⟨wr.heap.size, 0, none⟩ 1 1 [.slice AT nT cT] rfl rfl (newv_one _ _ _ rfl) (by intro u hu; simp at hu; subst hu; rfl) (by unfold maxLen; omega) (by omega) (by simp; omega) ?_)
            intro v' w5 hown' hgrow hblk
            have hva : Below wr.heap.size wr (wr.alloc (.cells #[.slice AT nT cT] 22)) := (Below.refl _ _).alloc (Nat.le_refl _) _
            obtain ⟨⟨A5, c5, hv, hown5⟩, b5, _, _, _⟩ := appV_step hown.out hb.out hsz hva (m := 1) (K := [.slice AT nT cT]) rfl hown' hgrow
            rw [hv] at hblk
            have X_5 := Lib.hid (LVs.grown (row' := (Value.slice A5 (k+1) c5).ownBlock) (hlv.out.up hva) (by rw [hown.out.1, hal.out]) (HLT.out.up hva) hgrow (by rw [show (wr.alloc (.cells #[.slice AT nT cT] 22)).heap.size = wr.heap.size + 1 by simp]; exact hblk))
            have V_5 := Lib.hid hown5
            have HAL : Hid ((ALL ++ [T]).length = k + 1) := Lib.hid (by simp [hal.out])
            have HLE : Hid (∀ l ∈ ALL ++ [T], FewP N M l ∧ l.length ≤ 30) := Lib.hid (by
              intro l' hl'
              rcases List.mem_append.1 hl' with h | h
              · exact hfw.out l' h
              · simp at h; subst h; exact ⟨FT.out, by omega⟩)
            rw [hv]
            have hb5 := b5
            have OO_5 := Lib.hid (OO_3.out.up b5)
            have TT_5 := Lib.hid (TT_3.out.up b5)
            have F_5 := Lib.hid (F_3.out.up b5)
            have RT_5 := Lib.hid (RT_3.out.up b5)
            have B_5 := Lib.hid (below_up B_3.out b5)
            clear OO_3 TT_3 F_3 RT_3 B_3 P2_3
            clear hown' hgrow hblk hva hown5 hv hown hlv hal hfw hb HLT b5 hb5
            have hxs : (vs ++ [Value.slice AT nT cT]).length = k + 1 := V_5.out.1
            generalize vs ++ [Value.slice AT nT cT] = VS at *
            generalize hLS : ALL ++ [T] = LS at *
            have HTin : Hid (T ∈ LS) := Lib.hid (by rw [← hLS]; simp)
            clear hLS
            have HTX : Hid (∀ l ∈ LS, Tx orig tl T l (rescueR T LS)) := Lib.hid (fun l hl => tx_ok (orig := orig) (tl := tl) (T := T) (by rw [LN.out]; exact hN) (by rw [LM.out]; exact hM) (by rw [LN.out, LM.out]; exact FT.out) (by rw [hKT]; exact hT1) (ls := LS) (fun l hl => by rw [LN.out, LM.out]; exact (HLE.out l hl).1) hl (HLE.out l hl).2)
            have QR : Hid (Res orig.length (rescueR T LS)) := Lib.hid (res_ok (N := orig.length) (M := tl.length) (T := T) (by rw [LN.out]; exact hN) (by rw [LM.out]; exact hM) (fun l hl => by rw [LN.out, LM.out]; exact (HLE.out l hl).1))
            have hls : ∀ l ∈ LS, MayX l := fun l hl => (HTX.out l hl).ok
            have HLS := Lib.hid hls
            have HFL : Hid (LS.flatten.length ≤ 100000) := Lib.hid (by have := flat_small (ls := LS) (fun l hl => (HLE.out l hl).2); have := HAL.out; omega)
            have QT := Lib.hid (HTX.out T HTin.out)
            clear hls
            have f0 := F_5.out.c0
            have f1 := F_5.out.c1
            go_wp2_with fail
            clear f0 f1
            have b6 : Below w5.heap.size w5 (w5.alloc (.cells #[.slice Ao N co, .slice At M ct] 41)) := (Below.refl _ _).alloc (Nat.le_refl _) _
            have S_6 := Lib.hid (rdbl_two w5 Ao At N M co ct orig tl _ rfl LN.out LM.out OO_5.out TT_5.out (by omega) (by unfold maxLen; omega) (by omega) (by unfold maxLen; omega))
            have OO_6 := Lib.hid (OO_5.out.up b6)
            have TT_6 := Lib.hid (TT_5.out.up b6)
            have F_6 := Lib.hid (F_5.out.up b6)
            have RT_6 := Lib.hid (RT_5.out.up b6)
            have V_6 := Lib.hid (V_5.out.up b6)
            have X_6 := Lib.hid (X_5.out.up b6)
            have B_6 := Lib.hid (below_up B_5.out b6)
            clear b6 OO_5 TT_5 F_5 RT_5 V_5 X_5 B_5
            have zeq6 : (w5.alloc (.cells #[.slice Ao N co, .slice At M ct] 41)).heap.size = w5.heap.size + 1 := by simp
            generalize w5.alloc (.cells #[.slice Ao N co, .slice At M ct] 41) = w6 at *
            obtain ⟨gS, hgS⟩ : ∃ gS : Nat, gS = w5.heap.size := ⟨_, rfl⟩
            rw [← hgS] at S_6 ⊢
            clear hgS
            refine (Rescue_any AT nT cT A5 (k+1) c5 _ T LS KT.out RT_6.out (by omega) HAL.out (X_6.out.rdl V_6.out) (by omega) HFL.out).mono ?_
            rintro e w7 ⟨⟨AR, nR, cR, rfl, oR⟩, b7⟩
            have OO_7 := Lib.hid (OO_6.out.up b7)
            have TT_7 := Lib.hid (TT_6.out.up b7)
            have F_7 := Lib.hid (F_6.out.up b7)
            have RT_7 := Lib.hid (RT_6.out.up b7)
            have V_7 := Lib.hid (V_6.out.up b7)
            have X_7 := Lib.hid (X_6.out.up b7)
            have S_7 := Lib.hid (S_6.out.up b7)
            have B_7 := Lib.hid (below_up B_6.out b7)
            have R_7 := Lib.hid (by have h := oR.rd; rw [rescueL_yes QT.out.ok HLS.out] at h; exact h)
            have KRx_7 := Lib.hid (by have h := oR.1; rw [rescueL_yes QT.out.ok HLS.out] at h; exact h)
            have KR := KRx_7
            clear KRx_7
            rw [rescueE_yes QT.out.ok HLS.out]
            clear oR HLS HFL
            generalize rescueR T LS = RS at *
            clear b7 OO_6 TT_6 F_6 RT_6 V_6 X_6 S_6 B_6
            go_wp2_with fail
            refine (Sc.refText_any AT nT cT (some ⟨gS, 0, none⟩) 2 2 _ T [orig, tl] KT.out RT_7.out (by omega) rfl S_7.out (by omega)).mono ?_
            rintro e w8 ⟨⟨AO, nO, cO, rfl, oO⟩, b8⟩
            have OO_8 := Lib.hid (OO_7.out.up b8)
            have TT_8 := Lib.hid (TT_7.out.up b8)
            have F_8 := Lib.hid (F_7.out.up b8)
            have RT_8 := Lib.hid (RT_7.out.up b8)
            have V_8 := Lib.hid (V_7.out.up b8)
            have X_8 := Lib.hid (X_7.out.up b8)
            have S_8 := Lib.hid (S_7.out.up b8)
            have R_8 := Lib.hid (R_7.out.up b8)
            have B_8 := Lib.hid (below_up B_7.out b8)
            have OT_8 := Lib.hid (by have h := oO.rd; rw [QT.out.txt.2] at h; exact h)
            rw [QT.out.txt.1]
            have hcO := oO.cap
            have KO : Hid ((Sc.textB [orig, tl] T).length = nO) := Lib.hid (by have h := oO.1; rw [QT.out.txt.2] at h; exact h)
            clear oO
            have f1 := F_8.out.c1
            clear b8 OO_7 TT_7 F_7 RT_7 V_7 X_7 S_7 R_7 B_7
            go_wp2_with fail
            refine (Sc.Copy_any At M ct _ tl LM.out TT_8.out (by omega)).mono ?_
            rintro e w9 ⟨⟨A9, n9, c9, rfl, o9⟩, b9⟩
            have O9 := Lib.hid o9
            have HB9 := Lib.hid b9
            clear o9 b9 f1
            go_wp2_with fail
            have hRb : tot RS ≤ N + 1 := by have h := QR.out.tot_; rw [LN.out] at h; exact h
            have hnR : nR ≤ 2001 := by have h := QR.out.len_; rw [LN.out, KR.out] at h; omega
            generalize hBB : w8.heap.size = BB at *
            have HB := Lib.hid hBB; clear hBB
            have hgB : w.heap.size < BB := by have := F_8.out.lt; have := HB.out; omega
            have hw9 : w8.heap.size ≤ w9.heap.size := HB9.out.size
            go_loopw [15, 16] (fun v i wr => ∃ j n A' c, j ≤ nR ∧ i = .int .i64 (j : Nat) ∧ v = .slice A' n c ∧ Hid (Sc.OwnB wr BB A' n c (tl ++ resB orig (RS.take j))) ∧ Hid (Below BB w8 wr)) (fun _ i _ => nR - (intOf i).toNat)
            case atStart => exact ⟨0, _, A9, c9, Nat.zero_le _, rfl, rfl, Lib.hid (by rw [List.take_zero, show resB orig [] = [] from rfl, List.append_nil]; exact O9.out), HB9⟩
            case round =>
              obtain ⟨j, n, A', c, hjr, rfl, rfl, hown, hb⟩ := hrel
              have hsz : BB ≤ wr.heap.size := by have := hb.out.size; have := HB.out; omega
              by_cases hlt : j < nR
              · obtain ⟨r, hr⟩ := get_some RS j (by have := KR.out; omega)
                have hbd := QR.out.bds r (List.mem_of_getElem? hr)
                rw [LN.out] at hbd
                have hRB := Lib.hid (resB_snoc orig RS hr)
                have hRL := resB_take_len QR.out.bds QR.out.right hr
                have hn : (n : Int) = M + (resB orig (RS.take j)).length := by have := hown.out.1; rw [← this, List.length_append, LM.out]; omega
                obtain ⟨fr, hfr⟩ := Int.eq_ofNat_of_zero_le hbd.1
                obtain ⟨to_, hto⟩ := Int.eq_ofNat_of_zero_le (show 0 ≤ r.2 by omega)
                obtain ⟨b1, off1, hA1, hb1, r0, r1⟩ := R_8.out.below hb.out (by have := HB.out; omega) j r hr
                obtain ⟨rx, ry⟩ := r
                simp only at hfr hto hbd hRL r0 r1
                subst hfr; subst hto; subst hA1
                have h1 : fr < to_ := by omega
                have h2 : to_ ≤ N := by omega
                obtain ⟨x, hx⟩ := Sc.get_some orig 0 (by have := LN.out; omega)
                obtain ⟨bo, oo, hAo, hbo, _⟩ := OO_8.out 0 x hx
                have ROO := Lib.hid (OO_8.out.below hb.out (by have := HB.out; omega))
                have f0 := (hb.out.cell (p := ⟨w.heap.size, 0, none⟩) hgB).trans F_8.out.c0
                rw [hAo] at f0 ROO
                have e1 : decide ((N : Int) < (to_ : Int)) = false := decide_eq_false (by omega)
                have e2 : decide ((fr : Int) < 0) = false := decide_eq_false (by omega)
                have e3 : decide ((to_ : Int) < (fr : Int)) = false := decide_eq_false (by omega)
                have hcf : (co = fr) = False := by simp; omega
                have hnn : n + (to_ - fr) ≤ 10000 := by omega
                have i0 : (0 : Int) ≤ (fr : Int) := by omega
                have i2 : (fr : Int) ≤ (to_ : Int) := by omega
                have i3 : (to_ : Int) ≤ (co : Int) := by omega
                have hlc : (cutB orig ((fr : Int), (to_ : Int))).length = to_ - fr := by
                  have := cutB_len (orig := orig) (r := ((fr : Int), (to_ : Int))) (by rw [LN.out]; exact hbd)
                  simp only at this
                  omega
                have HLC := Lib.hid hlc
                have HCC := Lib.hid (cutB_cells ROO.out fr to_ (by omega))
                have hb1z : b1 < wr.heap.size := by have := HB.out; omega
                have hgz : w.heap.size < wr.heap.size := by omega
                have hn0 : (Value.slice A' n c).ownBlock ≠ some w.heap.size := fun e => by have := (hown.out.2.lt _ e).1; omega
                have hn1 : (Value.slice A' n c).ownBlock ≠ some b1 := fun e => by have := (hown.out.2.lt _ e).1; have := HB.out; omega
                clear hr hx hbd hRL hlc ROO hAo
                go_wp2_with fail
                go_quiet (fail)
                have f0' : (wr.drewN nq).cell? ⟨w.heap.size, 0, none⟩ = some (.slice (some ⟨bo, oo, none⟩) N co) := f0
                have r0' : (wr.drewN nq).cell? ⟨b1, off1 + j * 2, none⟩ = some (.int .i64 fr) := r0
                have r1' : (wr.drewN nq).cell? ⟨b1, off1 + j * 2 + 1, none⟩ = some (.int .i64 to_) := r1
                have HCC' : Hid (∀ j u, (Sc.bcells (cutB orig ((fr : Int), (to_ : Int))))[j]? = some u → (wr.drewN nq).cell? ((⟨bo, oo + fr, none⟩ : Addr).add j) = some u) := HCC
                have RO' : Hid (Sc.OwnB (wr.drewN nq) BB A' n c (tl ++ resB orig (RS.take j))) := hown
                have HB' : Hid (Below BB w8 (wr.drewN nq)) := Lib.hid (belowDrewN hb.out nq)
                have hb1z' : b1 < (wr.drewN nq).heap.size := hb1z
                have hgz' : w.heap.size < (wr.drewN nq).heap.size := hgz
                have hsz' : BB ≤ (wr.drewN nq).heap.size := hsz
                clear f0 r0 r1 HCC hown hb hb1z hgz hsz
                generalize wr.drewN nq = wx at *
                go_wp2_with fail
                go_region_held3 (fun w' => w'.cell? ⟨w.heap.size, 0, none⟩ = some (.slice (some ⟨bo, oo, none⟩) N co) ∧ w'.cell? ⟨b1, off1 + j * 2, none⟩ = some (.int .i64 fr) ∧ w'.cell? ⟨b1, off1 + j * 2 + 1, none⟩ = some (.int .i64 to_))
                  (first
                    | go_keep
                    | (go_split_ands
                       refine ⟨?_, ?_, ?_⟩
                       · (rw [hgrow.cell_far _ (by simp; omega) (Ne.symm hn0)]; assumption)
                       · (rw [hgrow.cell_far _ (by simp; omega) (Ne.symm hn1)]; assumption)
                       · (rw [hgrow.cell_far _ (by simp; omega) (Ne.symm hn1)]; assumption)))
                  ((refine step_append_lies _ (by rfl) _ _ _ (by rfl) BB 5 i5 _ 1 1 Try.underlying41 hi5 hx0 hx1 hx2 rfl (by omega) (.slice A' n c) n (Sc.bcells (tl ++ resB orig (RS.take j))) (by rfl) RO'.out.2.drew ⟨bo, oo + fr, none⟩ (to_ - fr) (co - fr) (Sc.bcells (cutB orig ((fr : Int), (to_ : Int)))) (by first | rfl | (simp; omega)) (by rw [Sc.bcells, List.length_map, HLC.out]; omega) HCC'.out (Sc.bcells_one _) (by omega) (by unfold maxLen; omega) (by omega) hsz' wx.heap.size (by rfl) ?_; intro gg c8 w4 hown' hgrow hat hlt9))
                obtain ⟨⟨A8, c8', hv, hown2⟩, hb3, _, _, _⟩ := Sc.appB_step RO'.out HB'.out hsz' (Below.drew1 (Below.refl _ _)) (m := to_ - fr) (K := cutB orig ((fr : Int), (to_ : Int))) HLC.out hown' hgrow
                simp only [Value.slice.injEq, true_and] at hv
                obtain ⟨rfl, rfl⟩ := hv
                have HO9 := Lib.hid hown2; have HB9 := Lib.hid hb3
                rw [List.append_assoc, ← hRB.out] at HO9
                clear hown' hgrow hown2 hb3 hat
                go_wp2_with fail
                go_roundw
                case rel => exact ⟨j+1, _, _, c8, by omega, by go_num, rfl, HO9, HB9⟩
                case measure => simp [intOf]; omega
              · obtain rfl : j = nR := by omega
                clear hlt
                have e1 : RS.take j = RS := by rw [List.take_of_length_le (Nat.le_of_eq KR.out)]
                rw [e1] at hown
                have TR := Lib.hid hown.out.1
                obtain rfl := HB.out
                have hb10 := hb.out
                have OO_10 := Lib.hid (OO_8.out.up hb10)
                have TT_10 := Lib.hid (TT_8.out.up hb10)
                have F_10 := Lib.hid (F_8.out.up hb10)
                have RT_10 := Lib.hid (RT_8.out.up hb10)
                have V_10 := Lib.hid (V_8.out.up hb10)
                have X_10 := Lib.hid (X_8.out.up hb10)
                have S_10 := Lib.hid (S_8.out.up hb10)
                have R_10 := Lib.hid (R_8.out.up hb10)
                have OT_10 := Lib.hid (OT_8.out.up hb10)
                have B_10 := Lib.hid (below_up B_8.out hb10)
                clear OO_8 TT_8 F_8 RT_8 V_8 X_8 S_8 R_8 OT_8 B_8
                have Z_10 := Lib.hid hown.out.rd
                have hc10 := hown.out.cap
                unfold maxLen at hc10
                clear HB hown hb hb10 e1
                go_wp2_with fail
                have hgB2 : w.heap.size < wr.heap.size := F_10.out.lt
                obtain ⟨w10, hw10⟩ : ∃ w10 : World, w10 = wr := ⟨_, rfl⟩
                subst hw10
                go_loopw [17] (fun i wy => ∃ j2 : Nat, j2 ≤ k + 1 ∧ i = .int .i64 j2 ∧ Hid (Below w10.heap.size w10 wy)) (fun i _ => k + 1 - (intOf i).toNat)
                case atStart => exact ⟨0, Nat.zero_le _, rfl, Lib.hid (Below.refl _ _)⟩
                case round =>
                  obtain ⟨j2, hj2, rfl, hb⟩ := hrel
                  by_cases hlt2 : j2 < k + 1
                  · obtain ⟨l, hl⟩ := Sc.get_some LS j2 (by have := HAL.out; omega)
                    obtain ⟨v, hv, Ax, cx, rfl, hcx, hcx2, _, hrx⟩ := X_10.out.up hb.out j2 l hl
                    obtain ⟨b2, off2, rfl, hb2', d0⟩ := (V_10.out.up hb.out).get hv
                    have HT := Lib.hid (HTX.out l (List.mem_of_getElem? hl))
                    rw [List.append_nil] at hrx
                    have f1 := (F_10.out.up hb.out).c1
                    have hgz := (F_10.out.up hb.out).lt
                    have HRX := Lib.hid hrx
                    have hl30 := HT.out.len_
                    have hbd := Below.drew1 (Below.refl wr.heap.size wr)
                    have C1 := Lib.hid (Move_any AT nT cT AR j cR M Ax l.length cx wr.drew T RS l KT.out ((RT_10.out.up hb.out).up hbd) (by omega) KR.out ((R_10.out.up hb.out).up hbd) QR.out.ir (by omega) rfl (hrx.up hbd) (by omega) (by omega) (by omega))
                    have HD := Lib.hid hbd
                    clear hl hv hcx hrx hbd
                    go_wp2_with fail
                    go_region_held3 (fun w' => w'.cell? ⟨w.heap.size, 1, none⟩ = some (.slice At M ct) ∧ w'.cell? ⟨b2, off2 + j2, none⟩ = some (.slice Ax l.length cx))
                      (first
                        | go_keep
                        | (exact ⟨(hb11.cell (p := ⟨w.heap.size, 1, none⟩) hgz).trans f1, (hb11.cell (p := ⟨b2, off2 + j2, none⟩) hb2').trans d0⟩))
                      ((go_at_call_of 17 (Value.slice AT nT cT); refine C1.out.mono ?_; rintro e w11 ⟨⟨A11, n11, c11, rfl, o11⟩, hb11⟩))
                    have HTM := HT.out.move
                    rw [LM.out] at HTM
                    have HML := HT.out.mlen
                    have HX1 := Lib.hid HT.out.txt
                    have HX2 := Lib.hid HT.out.txt2
                    rw [LM.out] at HML HX2
                    rw [HTM.2] at o11
                    rw [HTM.1]
                    generalize moveL (Sc.bts T) RS (M : Int) (Sc.bts l) = m at *
                    have K11 := Lib.hid o11.1
                    have M_11 := Lib.hid o11.rd
                    have Hb11 := Lib.hid (HD.out.trans hb11)
                    have d1 := (Hb11.out.cell (p := ⟨b2, off2 + j2, none⟩) hb2').trans d0
                    have RX_11 := Lib.hid (HRX.out.up Hb11.out)
                    have S_11 := Lib.hid ((S_10.out.up hb.out).up Hb11.out)
                    have OT_11 := Lib.hid ((OT_10.out.up hb.out).up Hb11.out)
                    have Z_11 := Lib.hid ((Z_10.out.up hb.out).up Hb11.out)
                    have HBB11 := Lib.hid (below_up hb.out Hb11.out)
                    have hn11 : n11 ≤ 60000 := by have := K11.out; omega
                    clear HT HTM HML o11 hb11 HD f1 d0 hb C1 Hb11 HRX
                    go_wp2_with fail
                    refine (Sc.refText_any Ax l.length cx (some ⟨gS, 0, none⟩) 2 2 _ l [orig, tl] rfl RX_11.out (by omega) rfl S_11.out (by omega)).mono ?_
                    rintro e w12 ⟨⟨A12, n12, c12, rfl, o12⟩, b12⟩
                    rw [HX1.out.1]
                    rw [HX1.out.2] at o12
                    have K12 := Lib.hid o12.1
                    have E_12 := Lib.hid o12.rd
                    have hc12 := o12.cap
                    unfold maxLen at hc12
                    have M_12 := Lib.hid (M_11.out.up b12)
                    have OT_12 := Lib.hid (OT_11.out.up b12)
                    have Z_12 := Lib.hid (Z_11.out.up b12)
                    have HBB12 := Lib.hid (below_up HBB11.out b12)
                    clear o12 b12 M_11 OT_11 Z_11 HBB11 RX_11 S_11 d1
                    go_wp2_with fail
                    have hs13 := rdbl_two w12 AO A' nO n cO c (Sc.textB [orig, tl] T) (tl ++ resB orig RS) _ rfl KO.out TR.out OT_12.out Z_12.out hcO.1 hcO.2 hc10.1 hc10.2
                    have b13 : Below w12.heap.size w12 (w12.alloc (.cells #[.slice AO nO cO, .slice A' n c] 41)) := (Below.refl _ _).alloc (Nat.le_refl _) _
                    have S_13 := Lib.hid hs13
                    have M_13 := Lib.hid (M_12.out.up b13)
                    have E_13 := Lib.hid (E_12.out.up b13)
                    have HBB13 := Lib.hid (below_up HBB12.out b13)
                    clear hs13 b13 M_12 E_12 HBB12 OT_12 Z_12
                    generalize w12.alloc (.cells #[.slice AO nO cO, .slice A' n c] 41) = w13 at *
                    refine (Sc.refText_any A11 n11 c11 (some ⟨w12.heap.size, 0, none⟩) 2 2 _ m [Sc.textB [orig, tl] T, tl ++ resB orig RS] K11.out M_13.out (by omega) rfl S_13.out (by omega)).mono ?_
                    rintro e w14 ⟨⟨A14, n14, c14, rfl, o14⟩, b14⟩
                    rw [HX2.out.1]
                    rw [HX2.out.2] at o14
                    have K14 := Lib.hid o14.1
                    have G_14 := Lib.hid o14.rd
                    have E_14 := Lib.hid (E_13.out.up b14)
                    have HBB14 := Lib.hid (below_up HBB13.out b14)
                    clear o14 b14 M_13 E_13 HBB13 S_13
                    go_wp2_with fail
                    refine (SameB_true A12 n12 c12 A14 n14 c14 _ (Sc.textB [orig, tl] l) K12.out E_14.out (by omega) (by rw [← K12.out, ← K14.out]) G_14.out).mono ?_
                    rintro e w15 ⟨rfl, b15⟩
                    have HBB15 := Lib.hid (below_up HBB14.out b15)
                    clear b15 HBB14 E_14 G_14
                    go_wp2_with fail
                    go_roundw
                    case rel => exact ⟨j2+1, by omega, by go_num, HBB15⟩
                    case measure => simp [intOf]; omega
                  · obtain rfl : j2 = k + 1 := by omega
                    clear hlt2
                    have HBZ := Lib.hid (below_up B_10.out hb.out)
                    clear hb
                    go_wp2_with fail
                    go_ret
                    exact ⟨rfl, HBZ.out⟩
      · have d8 : decide (8 < (len2 : Int)) = true := decide_eq_true (by omega)
        go_enter Try.func5, Try.ntmps5
        go_wp2_with fail
        have b1 : Below w.heap.size w (w.alloc (.cells #[.slice Ao N co, .slice At M ct] 43)) := (Below.refl _ _).alloc (Nat.le_refl _) _
        have F_1 := Lib.hid (FAt.new w (.slice Ao N co) (.slice At M ct) 43)
        have OO_1 := Lib.hid (OO_0.out.up b1)
        have TT_1 := Lib.hid (TT_0.out.up b1)
        have P1_1 := Lib.hid (P1_0.out.up b1)
        have P2_1 := Lib.hid (P2_0.out.up b1)
        have B_1 := Lib.hid (b1)
        clear b1 OO_0 TT_0 P1_0 P2_0
        have zeq1 : (w.alloc (.cells #[.slice Ao N co, .slice At M ct] 43)).heap.size = w.heap.size + 1 := by simp
        generalize w.alloc (.cells #[.slice Ao N co, .slice At M ct] 43) = w1 at *
        refine (awake_any _).mono ?_
        rintro e w2 ⟨rfl, b2⟩
        have OO_2 := Lib.hid (OO_1.out.up b2)
        have TT_2 := Lib.hid (TT_1.out.up b2)
        have P1_2 := Lib.hid (P1_1.out.up b2)
        have P2_2 := Lib.hid (P2_1.out.up b2)
        have F_2 := Lib.hid (F_1.out.up b2)
        have B_2 := Lib.hid (below_up B_1.out b2)
        have c0 := F_2.out.c0
        have c1 := F_2.out.c1
        clear b2 OO_1 TT_1 P1_1 P2_1 F_1 B_1
        go_wp2_with fail
        refine (awake_any _).mono ?_
        rintro e w3 ⟨rfl, b3⟩
        clear c0 c1
        have OO_3 := Lib.hid (OO_2.out.up b3)
        have TT_3 := Lib.hid (TT_2.out.up b3)
        have P1_3 := Lib.hid (P1_2.out.up b3)
        have P2_3 := Lib.hid (P2_2.out.up b3)
        have F_3 := Lib.hid (F_2.out.up b3)
        have B_3 := Lib.hid (below_up B_2.out b3)
        clear b3 OO_2 TT_2 P1_2 P2_2 F_2 B_2
        go_wp2_with fail
        go_ret
        exact ⟨rfl, B_3.out⟩
    · have dM : decide (2000 < (M : Int)) = true := decide_eq_true (by omega)
      go_enter Try.func5, Try.ntmps5
      go_wp2_with fail
      have b1 : Below w.heap.size w (w.alloc (.cells #[.slice Ao N co, .slice At M ct] 43)) := (Below.refl _ _).alloc (Nat.le_refl _) _
      have F_1 := Lib.hid (FAt.new w (.slice Ao N co) (.slice At M ct) 43)
      have OO_1 := Lib.hid (OO_0.out.up b1)
      have TT_1 := Lib.hid (TT_0.out.up b1)
      have P1_1 := Lib.hid (P1_0.out.up b1)
      have P2_1 := Lib.hid (P2_0.out.up b1)
      have B_1 := Lib.hid (b1)
      clear b1 OO_0 TT_0 P1_0 P2_0
      have zeq1 : (w.alloc (.cells #[.slice Ao N co, .slice At M ct] 43)).heap.size = w.heap.size + 1 := by simp
      generalize w.alloc (.cells #[.slice Ao N co, .slice At M ct] 43) = w1 at *
      refine (awake_any _).mono ?_
      rintro e w2 ⟨rfl, b2⟩
      have OO_2 := Lib.hid (OO_1.out.up b2)
      have TT_2 := Lib.hid (TT_1.out.up b2)
      have P1_2 := Lib.hid (P1_1.out.up b2)
      have P2_2 := Lib.hid (P2_1.out.up b2)
      have F_2 := Lib.hid (F_1.out.up b2)
      have B_2 := Lib.hid (below_up B_1.out b2)
      have c0 := F_2.out.c0
      have c1 := F_2.out.c1
      clear b2 OO_1 TT_1 P1_1 P2_1 F_1 B_1
      go_wp2_with fail
      refine (awake_any _).mono ?_
      rintro e w3 ⟨rfl, b3⟩
      clear c0 c1
      have OO_3 := Lib.hid (OO_2.out.up b3)
      have TT_3 := Lib.hid (TT_2.out.up b3)
      have P1_3 := Lib.hid (P1_2.out.up b3)
      have P2_3 := Lib.hid (P2_2.out.up b3)
      have F_3 := Lib.hid (F_2.out.up b3)
      have B_3 := Lib.hid (below_up B_2.out b3)
      clear b3 OO_2 TT_2 P1_2 P2_2 F_2 B_2
      go_wp2_with fail
      go_ret
      exact ⟨rfl, B_3.out⟩
  · have dN : decide (2000 < (N : Int)) = true := decide_eq_true (by omega)
    go_enter Try.func5, Try.ntmps5
    go_wp2_with fail
    have b1 : Below w.heap.size w (w.alloc (.cells #[.slice Ao N co, .slice At M ct] 43)) := (Below.refl _ _).alloc (Nat.le_refl _) _
    have F_1 := Lib.hid (FAt.new w (.slice Ao N co) (.slice At M ct) 43)
    have OO_1 := Lib.hid (OO_0.out.up b1)
    have TT_1 := Lib.hid (TT_0.out.up b1)
    have P1_1 := Lib.hid (P1_0.out.up b1)
    have P2_1 := Lib.hid (P2_0.out.up b1)
    have B_1 := Lib.hid (b1)
    clear b1 OO_0 TT_0 P1_0 P2_0
    have zeq1 : (w.alloc (.cells #[.slice Ao N co, .slice At M ct] 43)).heap.size = w.heap.size + 1 := by simp
    generalize w.alloc (.cells #[.slice Ao N co, .slice At M ct] 43) = w1 at *
    refine (awake_any _).mono ?_
    rintro e w2 ⟨rfl, b2⟩
    have OO_2 := Lib.hid (OO_1.out.up b2)
    have TT_2 := Lib.hid (TT_1.out.up b2)
    have P1_2 := Lib.hid (P1_1.out.up b2)
    have P2_2 := Lib.hid (P2_1.out.up b2)
    have F_2 := Lib.hid (F_1.out.up b2)
    have B_2 := Lib.hid (below_up B_1.out b2)
    have c0 := F_2.out.c0
    have c1 := F_2.out.c1
    clear b2 OO_1 TT_1 P1_1 P2_1 F_1 B_1
    go_wp2_with fail
    refine (awake_any _).mono ?_
    rintro e w3 ⟨rfl, b3⟩
    clear c0 c1
    have OO_3 := Lib.hid (OO_2.out.up b3)
    have TT_3 := Lib.hid (TT_2.out.up b3)
    have P1_3 := Lib.hid (P1_2.out.up b3)
    have P2_3 := Lib.hid (P2_2.out.up b3)
    have F_3 := Lib.hid (F_2.out.up b3)
    have B_3 := Lib.hid (below_up B_2.out b3)
    clear b3 OO_2 TT_2 P1_2 P2_2 F_2 B_2
    go_wp2_with fail
    go_ret
    exact ⟨rfl, B_3.out⟩
end Go.Proofs.Ytdpjblepcpjomaa.Rb
