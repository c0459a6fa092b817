/-
  The reader's plan: what is read of the bytes, or it gives up.
-/
import Derived.Test.YtblibmalommdkaaGreatKB
import Derived.Deep.RegionHeld3
namespace Go.Proofs.YtblibmalommdkaaGreat
open Go.RowKit
open Re (Rdr Bytes num many Many pPlan pRange pWave pStep pPart leVal gaveUp)
set_option maxRecDepth 100000 in
set_option maxHeartbeats 4000000 in
theorem plan_any (w : World) (rb n c at_ : Nat) (A : Option Addr) (l : List Int) (h : Rdr w rb A n c at_ l) (hy : Bytes l) (hn : n ≤ 1073741824) (hc : c ≤ 9223372036854775807) (hat : at_ ≤ n) :
    Calls Tryz.prog 25 #[.agg #[.pointer (some ⟨rb, 0, none⟩)]] w fun e w' => ((∃ (p : PlV) (q : Pln) (b : Nat), pPlan l at_ = some (q, b) ∧ e = .returned (.agg p.cells) ∧ p.pln = q ∧ OwnP w' w.heap.size p ∧ Rdr w' rb A n c b l) ∨ (pPlan l at_ = none ∧ e = gaveUp)) ∧ w.grownBy w' (some rb) := by
  obtain ⟨i0, hi, hz0, hz1, hz2⟩ := info_parts info29
  obtain ⟨k0, ki, kz0, kz1, kz2⟩ := info_parts info43
  obtain ⟨q0, qi, qz0, qz1, qz2⟩ := info_parts info70
  obtain ⟨j0, ji, jz0, jz1, jz2⟩ := info_parts Sc.info31
  have hln := h.len
  have hrb := h.lt
  have HY := Lib.hid hy
  have HL := Lib.hid hln
  have hb0 : Below w.heap.size w ((w.alloc (.cells #[.pointer (some ⟨rb, 0, none⟩)] 61)).alloc (.cells #[.int .i64 0, .slice none 0 0, .slice none 0 0] 30)) := ((Below.refl _ _).alloc (Nat.le_refl _) _).alloc (by simp) _
  have H0 : Hid (Rdr ((w.alloc (.cells #[.pointer (some ⟨rb, 0, none⟩)] 61)).alloc (.cells #[.int .i64 0, .slice none 0 0, .slice none 0 0] 30)) rb A n c at_ l) := Lib.hid (h.grown hb0)
  have HG0 : Hid (w.grownBy ((w.alloc (.cells #[.pointer (some ⟨rb, 0, none⟩)] 61)).alloc (.cells #[.int .i64 0, .slice none 0 0, .slice none 0 0] 30)) (some rb)) := Lib.hid (Re.grown_below hb0 _)
  have x0 : ((w.alloc (.cells #[.pointer (some ⟨rb, 0, none⟩)] 61)).alloc (.cells #[.int .i64 0, .slice none 0 0, .slice none 0 0] 30)).heap[w.heap.size]? = some (.cells #[.pointer (some ⟨rb, 0, none⟩)] 61 (0, 0)) := (heap_alloc_old _ _ (by simp)).trans (heap_alloc_new w _)
  have x1 : ((w.alloc (.cells #[.pointer (some ⟨rb, 0, none⟩)] 61)).alloc (.cells #[.int .i64 0, .slice none 0 0, .slice none 0 0] 30)).heap[w.heap.size + 1]? = some (.cells #[.int .i64 0, .slice none 0 0, .slice none 0 0] 30 (0, 0)) := by
    have h := heap_alloc_new (w.alloc (.cells #[.pointer (some ⟨rb, 0, none⟩)] 61)) (.cells #[.int .i64 0, .slice none 0 0, .slice none 0 0] 30)
    have e : (w.alloc (.cells #[.pointer (some ⟨rb, 0, none⟩)] 61)).heap.size = w.heap.size + 1 := by simp
    rw [e] at h
    exact h
  have hz : ((w.alloc (.cells #[.pointer (some ⟨rb, 0, none⟩)] 61)).alloc (.cells #[.int .i64 0, .slice none 0 0, .slice none 0 0] 30)).heap.size = w.heap.size + 2 := by simp
  have HX0 := Lib.hid x0; have HX1 := Lib.hid x1
  clear h hy hln hb0 x0 x1
  obtain ⟨R0, hR0⟩ : ∃ R0, pPlan l at_ = R0 := ⟨_, rfl⟩
  have HPL := Lib.hid hR0
  rw [hR0]
  clear hR0
  cases hv : num l 4 at_ with
  | none =>
    have HN : Hid (R0 = none) := Lib.hid (by rw [← HPL.out]; unfold pPlan; rw [hv]; rfl)
    go_enter Tryz.func25, Tryz.ntmps25
    go_wp2_with fail
    refine (Re.number_none _ rb n c at_ A l H0.out hn hat 4 (by omega) (by omega) hv).mono ?_
    rintro e w1 ⟨rfl, hg⟩
    have HG1 := Lib.hid (gr_trans HG0.out hg)
    clear hg
    unfold gaveUp
    go_wp2_with fail
    exact ⟨rfl, .inr ⟨HN.out, rfl⟩, HG1.out⟩
  | some p =>
    obtain ⟨sz, a1⟩ := p
    have hbd := Re.num_bd HY.out hv (by omega)
    have ha1 : a1 ≤ n := by have := Re.num_some hv; have := HL.out; omega
    have HV := Lib.hid hv
    go_enter Tryz.func25, Tryz.ntmps25
    go_wp2_with fail
    refine (Re.number_at _ rb n c at_ a1 A l sz H0.out HY.out hn hc 4 (by omega) (by omega) hv).mono ?_
    rintro e w1 ⟨rfl, hR, hg⟩
    have hs1 := hg.size
    rw [hz] at hs1
    have hps : PS w (w1.alloc (.cells #[.int .i64 sz, .slice none 0 0, .slice none 0 0] 30)) rb w1.heap.size sz none 0 [] none 0 [] := by
      have e0 := (gr_block hg (b := w.heap.size) (by rw [hz]; omega) hrb).trans HX0.out
      have e1 := (gr_block hg (b := w.heap.size + 1) (by rw [hz]; omega) (by omega)).trans HX1.out
      exact ⟨(heap_alloc_old _ _ (by omega)).trans e0, (heap_alloc_old _ _ (by omega)).trans e1, heap_alloc_new _ _, hrb, by omega, ⟨Own.nil _ _, OwnW.nil _ _, fun v hv => (by cases hv), fun i j u v b hi => (by simp at hi)⟩, gr_trans (gr_trans HG0.out hg) (gr_alloc _)⟩
    have HPS := Lib.hid hps
    have HR := Lib.hid (rdr_alloc hR (.cells #[.int .i64 sz, .slice none 0 0, .slice none 0 0] 30))
    clear hR hg hs1 hps hv H0 HG0 HX0 HX1 hz
    go_upto_region 2 with (fail)
    generalize w1.alloc (.cells #[.int .i64 sz, .slice none 0 0, .slice none 0 0] 30) = w2 at *
    generalize w1.heap.size = qb at *
    have hbx := HPS.out.box
    rcases Re.count_any (pRange l) w2 rb n c a1 A l HR.out HY.out hn hc ha1 4 (by omega) (by omega) 8 (by omega) (Re.pRange_fwd l) with ⟨N, a2, hv, ha2, hNb, hle, hcall⟩ | ⟨hnone, hcall⟩
    · have HV2 := Lib.hid hv
      clear hv
      go_wp2_with fail
      refine hcall.mono ?_
      rintro e w3 ⟨rfl, hR, hg⟩
      have HPS3 := Lib.hid (HPS.out.up hg)
      have HR3 := Lib.hid hR
      clear hR hg hcall hbx HPS HR
      obtain ⟨N', rfl⟩ : ∃ N' : Nat, N = (N' : Int) := Int.eq_ofNat_of_zero_le hNb.1
      rw [Int.toNat_natCast] at hle
      have HP1 : Hid (many (pRange l) N' a2 = none → R0 = none) := Lib.hid (fun hm => by
        rw [← HPL.out]
        unfold pPlan
        rw [HV.out]
        simp only [Option.bind_some, HV2.out, Int.toNat_natCast, hm, Option.bind_none])
      go_wp2_with fail
      go_loopw [4, 14] (fun _ i wr => ∃ (k a sc : Nat) (SA : Option Addr) (st : List R), i = .int .i64 k ∧ k ≤ N' ∧ a ≤ n ∧ Hid (PS w wr rb qb sz SA sc st none 0 [] ∧ Rdr wr rb A n c a l ∧ Many (pRange l) N' a2 k st a)) (fun _ i _ => N' - (intOf i).toNat)
      case atStart => exact ⟨0, a2, 0, none, [], rfl, Nat.zero_le _, ha2, Lib.hid ⟨HPS3.out, HR3.out, Many.start _ _ _⟩⟩
      case round =>
        clear HPS3 HR3
        obtain ⟨k, a, sc, SA, st, rfl, hkN, ha, HI⟩ := hrel
        have hbx := HI.out.1.box
        by_cases hlt : k < N'
        · cases hv1 : num l 4 a with
          | none =>
            have HN : Hid (R0 = none) := Lib.hid (HP1.out (HI.out.2.2.fail hlt (by unfold pRange; rw [hv1]; rfl)))
            go_wp2_with fail
            refine (Re.number_none _ rb n c a A l HI.out.2.1 hn ha 4 (by omega) (by omega) hv1).mono ?_
            rintro e w1 ⟨rfl, hg⟩
            have HG1 := Lib.hid (gr_trans HI.out.1.gr hg)
            clear hg
            unfold gaveUp
            go_wp2_with fail
            exact ⟨rfl, .inr ⟨HN.out, rfl⟩, HG1.out⟩
          | some p =>
            obtain ⟨f, b1⟩ := p
            have hb1 : b1 ≤ n := by have := Re.num_some hv1; have := HL.out; omega
            go_wp2_with fail
            refine (Re.number_at _ rb n c a b1 A l f HI.out.2.1 HY.out hn hc 4 (by omega) (by omega) hv1).mono ?_
            rintro e w3 ⟨rfl, hR, hg⟩
            have HPS3 := Lib.hid (HI.out.1.up hg)
            have HR3 := Lib.hid hR
            have HM := Lib.hid HI.out.2.2
            have HV1 := Lib.hid hv1
            clear hR hg hbx hv1 HI
            go_upto_region 5 with (fail)
            have hbx := HPS3.out.box
            have hc1 := HPS3.out.c1
            cases hv2 : num l 4 b1 with
            | none =>
              have HN : Hid (R0 = none) := Lib.hid (HP1.out (HM.out.fail hlt (by unfold pRange; rw [HV1.out]; simp only [Option.bind_some, hv2]; rfl)))
              have hcall := Re.number_none w3.drew rb n c b1 A l (HR3.out.drewN 1) hn hb1 4 (by omega) (by omega) hv2
              have HGN : Hid (∀ x : World, w3.drew.grownBy x (some rb) → w.grownBy x (some rb)) := Lib.hid (fun x hx => gr_trans (gr_below HPS3.out.gr (belowDrewN (Below.refl _ _) 1) HPS3.out.gr.size) hx)
              refine wp_region_held_drew (S := fun w' => w'.cell? ⟨w.heap.size, 0, none⟩ = some (.pointer (some ⟨rb, 0, none⟩)) ∧ w'.cell? ⟨qb, 1, none⟩ = some (.slice SA st.length sc)) (by kernel_rfl) ⟨hbx, hc1⟩ ?_
              intro hS
              refine wpAnyH_take (i := 0) (v := ?_) rfl (by kernel_rfl) (by kernel_rfl) (by kernel_rfl) (fun _ _ _ h => h) (Or.inl ⟨by rfl, ?_⟩) (by assumption) ?_
              rotate_left
              · intro w' hSw
                obtain ⟨hSw0, hSw1⟩ := hSw
                go_simp
                first | done | with_reducible rfl
              simp only [Act.put, List.setIfInBounds_toArray]
              refine wpAnyH_take (i := 1) (v := ?_) rfl (by kernel_rfl) (by kernel_rfl) (by kernel_rfl) (fun _ _ _ h => h) (Or.inl ⟨by rfl, ?_⟩) (by assumption) ?_
              rotate_left
              · intro w' hSw
                obtain ⟨hSw0, hSw1⟩ := hSw
                go_simp
                first | done | with_reducible rfl
              simp only [Act.put]
              refine wpAnyH_take (i := 2) (v := ?_) rfl (by kernel_rfl) (by kernel_rfl) (by kernel_rfl) (fun _ _ _ h => h) (Or.inl ⟨by rfl, ?_⟩) (by assumption) ?_
              rotate_left
              · intro w' hSw
                obtain ⟨hSw0, hSw1⟩ := hSw
                go_simp
                first | done | with_reducible rfl
              simp only [Act.put]
              refine wpAnyH_take (i := 3) (v := ?_) rfl (by kernel_rfl) (by kernel_rfl) (by kernel_rfl) (fun _ _ _ h => h) (Or.inl ⟨by rfl, ?_⟩) (by assumption) ?_
              rotate_left
              · intro w' hSw
                obtain ⟨hSw0, hSw1⟩ := hSw
                go_simp
                first | done | with_reducible rfl
              simp only [Act.put]
              refine wpAnyH_ready (rs := [4]) (by kernel_rfl) (by decide) (AllReadyH.cons rfl (fun K hK => ?_) AllReadyH.nil)
              go_simp
              go_at_call 22
              refine hcall.mono ?_
              rintro e w4 ⟨rfl, hg4⟩
              unfold gaveUp
              go_wp2_with fail
              exact ⟨rfl, .inr ⟨HN.out, rfl⟩, HGN.out _ hg4⟩
            | some p =>
              obtain ⟨t, b2⟩ := p
              have hb2 : b2 ≤ n := by have := Re.num_some hv2; have := HL.out; omega
              have HV2' := Lib.hid hv2
              have hcall := Re.number_at w3.drew rb n c b1 b2 A l t (HR3.out.drewN 1) HY.out hn hc 4 (by omega) (by omega) hv2
              have HPD : Hid (PS w w3.drew rb qb sz SA sc st none 0 []) := Lib.hid (HPS3.out.below (belowDrewN (Below.refl _ _) 1))
              have hkst : st.length = k := HM.out.len
              have HKS := Lib.hid hkst
              have hcl : ∀ x : World, w3.drew.grownBy x (some rb) → x.cell? ⟨qb, 1, none⟩ = some (.slice SA st.length sc) ∧ x.frozen? ⟨qb, 1, none⟩ = false ∧ qb < x.heap.size := fun x hx => ⟨(HPD.out.up hx).c1, frozen_of_row _ _ 1 _ _ (HPD.out.up hx).b2, (HPD.out.up hx).qs⟩
              have hsl : st.length ≤ 1073741824 := by omega
              have hqs := HPS3.out.qs
              clear hv2 hkst
              go_region_law (first | (go_simp; go_at_call 22; refine hcall.mono ?_; rintro e w4 ⟨rfl, hR4, hg4⟩; have hx4 := hcl w4 hg4; obtain ⟨hx4, hz4, hq4⟩ := hx4) | (refine step_append_lies _ (by rfl) (.tmp 19) (.tmp 24) 27 (by rfl) (qb + 1) 74 i0 _ 2 16 Tryz.underlying27 hi hz0 hz1 hz2 rfl (by omega) (.slice SA st.length sc) st.length (cells st) (by rfl) ((HPD.out.up hg4).own.st.2.alloc _) ⟨w4.heap.size, 0, none⟩ 1 1 [.int .i64 f, .int .i64 t] (by rfl) (by rfl) (World.news_of_block (heap_alloc_new _ _)) (by simp [Value.oneCell']) (by omega) (by unfold maxLen; omega) (by omega) (by simp; omega) (w4.heap.size + 1) (by simp) ?_; intro g5 k5 w5 hown5 hgrow5 hat5 hlt5; have c15 := (hgrow5.cell_far ⟨qb, 1, none⟩ (by simp; omega) (fun e => by have := (row_in (HPD.out.up hg4).own.st.2 (own_in.1 e.symm)).1; simp only at this; omega)).trans ((World.cell?_alloc_lt _ _ _ hq4).trans hx4); have z15 := (hgrow5.frozen_far ⟨qb, 1, none⟩ (by simp; omega) (fun e => by have := (row_in (HPD.out.up hg4).own.st.2 (own_in.1 e.symm)).1; simp only at this; omega)).trans ((((Below.refl w4.heap.size w4).alloc (Nat.le_refl _) _).frozen (p := ⟨qb, 1, none⟩) hq4).trans hz4)))
              all_goals
                have hpn := PS.stash (r := (f, t)) (HPD.out.up hg4) (((Below.refl w4.heap.size w4).alloc (Nat.le_refl _) (.cells #[.int .i64 f, .int .i64 t] 74))) hown5 hgrow5
                have hrn := rdr_set (rdr_grown (rdr_alloc hR4 (.cells #[.int .i64 f, .int .i64 t] 74)) hgrow5 (fun b hb => by have := (row_in (HPD.out.up hg4).own.st.2 (own_in.1 hb)).1; have := HPD.out.rlt; have := HPD.out.qlt; omega)) ⟨qb, 1, none⟩ (.slice (some ⟨g5, 0, none⟩) (st.length + 1) k5) (by simp only; have := HPD.out.rlt; have := HPD.out.qlt; omega)
                have HPN := Lib.hid hpn; have HRN := Lib.hid hrn
                have HMN := Lib.hid (HM.out.next (x := (f, t)) (b := b2) hlt (by unfold pRange; rw [HV1.out]; simp only [Option.bind_some, HV2'.out]; rfl))
                clear hpn hrn hown5 hgrow5 hat5 hlt5 c15 z15 hcl hcall hx4 hz4 hq4 hbx hc1 hqs hsl
                generalize w5.setCell ⟨qb, 1, none⟩ (.slice (some ⟨g5, 0, none⟩) (st.length + 1) k5) = w6 at *
                go_wp2_with fail
                go_roundw
                case rel => exact ⟨k + 1, b2, k5, some ⟨g5, 0, none⟩, st ++ [(f, t)], by go_num, by omega, hb2, Lib.hid ⟨HPN.out, HRN.out, HMN.out⟩⟩
                case measure => simp [intOf]; omega
        · obtain rfl : k = N' := by omega
          clear hlt hkN
          have HMD := Lib.hid HI.out.2.2.done
          have HPS4 := Lib.hid HI.out.1
          have HR4 := Lib.hid HI.out.2.1
          clear HI
          rcases Re.count_any (pWave l) wr rb n c a A l HR4.out HY.out hn hc ha 4 (by omega) (by omega) 1 (by omega) (Re.pWave_fwd l) with ⟨M, a3, hv, ha3, hMb, hle3, hcall⟩ | ⟨hnone, hcall⟩
          · obtain ⟨M', rfl⟩ : ∃ M' : Nat, M = (M' : Int) := Int.eq_ofNat_of_zero_le hMb.1
            rw [Int.toNat_natCast] at hle3
            have HPL2 : Hid ((many (pWave l) M' a3).map (fun ws => ((⟨sz, st, ws.1⟩ : Pln), ws.2)) = R0) := Lib.hid (by
              rw [← HPL.out]
              unfold pPlan
              rw [HV.out]
              simp only [Option.bind_some, HV2.out, Int.toNat_natCast, HMD.out, hv])
            have HP2 : Hid (many (pWave l) M' a3 = none → R0 = none) := Lib.hid (fun hm => by rw [← HPL2.out, hm]; rfl)
            clear hv
            go_wp2_with fail
            refine hcall.mono ?_
            rintro e w5 ⟨rfl, hR, hg⟩
            have HPS5 := Lib.hid (HPS4.out.up hg)
            have HR5 := Lib.hid hR
            clear hR hg hcall hbx HPS4 HR4
            go_wp2_with fail
            go_loopw [30] (fun i wr => ∃ (k a wc : Nat) (WA : Option Addr) (Q : List WvV), i = .int .i64 k ∧ k ≤ M' ∧ a ≤ n ∧ Hid (PS w wr rb qb sz SA sc st WA wc Q ∧ Rdr wr rb A n c a l ∧ Many (pWave l) M' a3 k (Q.map WvV.wv) a)) (fun i _ => M' - (intOf i).toNat)
            case atStart => exact ⟨0, a3, 0, none, [], rfl, Nat.zero_le _, ha3, Lib.hid ⟨HPS5.out, HR5.out, Many.start _ _ _⟩⟩
            case round =>
              clear HPS5 HR5
              obtain ⟨k, a, wc, WA, Q, rfl, hkM, ha, HI⟩ := hrel
              have hbx := HI.out.1.box
              by_cases hlt : k < M'
              · have HPW : Hid (pWave l a = none → R0 = none) := Lib.hid (fun hm => HP2.out (HI.out.2.2.fail hlt hm))
                have HPSv := Lib.hid HI.out.1
                have HRv := Lib.hid HI.out.2.1
                have HMv := Lib.hid HI.out.2.2
                clear HI
                rcases Re.count_any (pStep l) wr rb n c a A l HRv.out HY.out hn hc ha 1 (by omega) (by omega) 5 (by omega) (Re.pStep_fwd l) with ⟨K, a4, hv, ha4, hKb, hle4, hcall⟩ | ⟨hnone, hcall⟩
                · obtain ⟨K', rfl⟩ : ∃ K' : Nat, K = (K' : Int) := Int.eq_ofNat_of_zero_le hKb.1
                  rw [Int.toNat_natCast] at hle4
                  have HWE : Hid (pWave l a = many (pStep l) K' a4) := Lib.hid (by unfold pWave; rw [hv]; simp only [Option.bind_some, Int.toNat_natCast])
                  clear hv
                  go_wp2_with fail
                  refine hcall.mono ?_
                  rintro e w6 ⟨rfl, hR, hg⟩
                  have HPS6 := Lib.hid (HPSv.out.up hg)
                  have HR6 := Lib.hid hR
                  clear hR hg hcall hbx HPSv HRv
                  go_wp2_with fail
                  go_loopw [5, 34] (fun v i wx => ∃ (j a c5 : Nat) (A5 : Option Addr) (T : List StV), v = .slice A5 j c5 ∧ i = .int .i64 j ∧ j ≤ K' ∧ a ≤ n ∧ T.length = j ∧ Hid (WS w6 wx rb A5 c5 T ∧ Rdr wx rb A n c a l ∧ Many (pStep l) K' a4 j (T.map StV.st) a)) (fun _ i _ => K' - (intOf i).toNat)
                  case atStart => exact ⟨0, a4, 0, none, [], rfl, rfl, Nat.zero_le _, ha4, rfl, Lib.hid ⟨WS.start _ _ (Nat.lt_of_lt_of_le HPS6.out.rlt HPS6.out.gr.size), HR6.out, Many.start _ _ _⟩⟩
                  case round =>
                    clear HR6
                    obtain ⟨j, a', c5, A5, T, rfl, rfl, hjK, ha', hTj, HJ⟩ := hrel
                    have HPSx := Lib.hid (HPS6.out.up HJ.out.1.gr)
                    have hbx := HPSx.out.box
                    have HTJ := Lib.hid hTj
                    clear hTj
                    by_cases hlj : j < K'
                    · have HPT : Hid (pStep l a' = none → R0 = none) := Lib.hid (fun hm => HPW.out (HWE.out.trans (HJ.out.2.2.fail hlj hm)))
                      cases hv1 : num l 4 a' with
                      | none =>
                        have hcall := Re.number_none wr rb n c a' A l HJ.out.2.1 hn ha' 4 (by omega) (by omega) hv1
                        have HN : Hid (R0 = none) := Lib.hid (HPT.out (by unfold pStep; rw [hv1]; rfl))
                        go_wp2_with fail
                        refine hcall.mono ?_
                        rintro e w3 ⟨rfl, hg⟩
                        have HG1 := Lib.hid (gr_trans HPSx.out.gr hg)
                        clear hg
                        unfold gaveUp
                        go_wp2_with fail
                        exact ⟨rfl, .inr ⟨HN.out, rfl⟩, HG1.out⟩
                      | some p =>
                        obtain ⟨blk, b1⟩ := p
                        have hb1 : b1 ≤ n := by have := Re.num_some hv1; have := HL.out; omega
                        have hblk := Re.num_bd HY.out hv1 (by omega)
                        go_wp2_with fail
                        refine (Re.number_at _ rb n c a' b1 A l blk HJ.out.2.1 HY.out hn hc 4 (by omega) (by omega) hv1).mono ?_
                        rintro e w7 ⟨rfl, hR, hg⟩
                        have HPS7 := Lib.hid (HPSx.out.up hg)
                        have HWS7 := Lib.hid (HJ.out.1.up hg)
                        have HMJ := Lib.hid HJ.out.2.2
                        have HSS := Lib.hid (SS.start w7 rb blk (Nat.lt_of_lt_of_le HPS7.out.rlt HPS7.out.gr.size))
                        have HR7 := Lib.hid (rdr_alloc hR (.cells #[.int .i64 blk, .slice none 0 0] 78))
                        have HV1 := Lib.hid hv1
                        have hbx7 := (HPS7.out.up (gr_alloc (.cells #[.int .i64 blk, .slice none 0 0] 78))).box
                        clear hR hg hbx hv1 HJ
                        go_upto_region 13 with (fail)
                        generalize w7.alloc (.cells #[.int .i64 blk, .slice none 0 0] 78) = w8 at *
                        have HG78 : Hid (w7.grownBy w8 (some rb)) := Lib.hid HSS.out.gr
                        rcases Re.count_any (pPart l) w8 rb n c b1 A l HR7.out HY.out hn hc hb1 1 (by omega) (by omega) 6 (by omega) (Re.pPart_fwd l) with ⟨P, a6, hv, ha6, hPb, hle6, hcall⟩ | ⟨hnone, hcall⟩
                        · obtain ⟨P', rfl⟩ : ∃ P' : Nat, P = (P' : Int) := Int.eq_ofNat_of_zero_le hPb.1
                          rw [Int.toNat_natCast] at hle6
                          have HTE : Hid (pStep l a' = (many (pPart l) P' a6).map fun y => ((blk, y.1), y.2)) := Lib.hid (by unfold pStep; rw [HV1.out]; simp only [Option.bind_some, hv, Int.toNat_natCast])
                          clear hv
                          go_wp2_with fail
                          refine hcall.mono ?_
                          rintro e w9 ⟨rfl, hR, hg⟩
                          have HSS9 := Lib.hid (HSS.out.up hg)
                          have HR9 := Lib.hid hR
                          clear hR hg hcall hbx7 HSS HR7
                          go_wp2_with fail
                          go_loopw [41] (fun i wx => ∃ (q a pc : Nat) (PA : Option Addr) (parts : List S), i = .int .i64 q ∧ q ≤ P' ∧ a ≤ n ∧ Hid (SS w7 wx rb blk PA pc parts ∧ Rdr wx rb A n c a l ∧ Many (pPart l) P' a6 q parts a)) (fun i _ => P' - (intOf i).toNat)
                          case atStart => exact ⟨0, a6, 0, none, [], rfl, Nat.zero_le _, ha6, Lib.hid ⟨HSS9.out, HR9.out, Many.start _ _ _⟩⟩
                          case round =>
                            clear HSS9 HR9
                            obtain ⟨q, a'', pc, PA, parts, rfl, hqP, ha'', HK⟩ := hrel
                            have HPSy := Lib.hid (HPS7.out.up HK.out.1.gr)
                            have hbx := HPSy.out.box
                            by_cases hlq : q < P'
                            · have HPP : Hid (pPart l a'' = none → R0 = none) := Lib.hid (fun hm => HPT.out (HTE.out.trans (by rw [HK.out.2.2.fail hlq hm]; rfl)))
                              cases hv1 : num l 1 a'' with
                              | none =>
                                have hcall := Re.number_none wr rb n c a'' A l HK.out.2.1 hn ha'' 1 (by omega) (by omega) hv1
                                have HN : Hid (R0 = none) := Lib.hid (HPP.out (by unfold pPart; rw [hv1]; rfl))
                                go_wp2_with fail
                                refine hcall.mono ?_
                                rintro e w3 ⟨rfl, hg⟩
                                have HG1 := Lib.hid (gr_trans HPSy.out.gr hg)
                                clear hg
                                unfold gaveUp
                                go_wp2_with fail
                                exact ⟨rfl, .inr ⟨HN.out, rfl⟩, HG1.out⟩
                              | some p =>
                                obtain ⟨src, d1⟩ := p
                                have hd1 : d1 ≤ n := by have := Re.num_some hv1; have := HL.out; omega
                                go_wp2_with fail
                                refine (Re.number_at _ rb n c a'' d1 A l src HK.out.2.1 HY.out hn hc 1 (by omega) (by omega) hv1).mono ?_
                                rintro e w10 ⟨rfl, hR, hg⟩
                                have HPS10 := Lib.hid (HPSy.out.up hg)
                                have HSS10 := Lib.hid (HK.out.1.up hg)
                                have HM10 := Lib.hid HK.out.2.2
                                have HR10 := Lib.hid hR
                                have HV1' := Lib.hid hv1
                                clear hR hg hbx hv1 HK
                                have hbx := HPS10.out.box
                                cases hv2 : num l 4 d1 with
                                | none =>
                                  have hcall := Re.number_none w10 rb n c d1 A l HR10.out hn hd1 4 (by omega) (by omega) hv2
                                  have HN : Hid (R0 = none) := Lib.hid (HPP.out (by unfold pPart; rw [HV1'.out]; simp only [Option.bind_some, hv2]; rfl))
                                  go_wp2_with fail
                                  refine hcall.mono ?_
                                  rintro e w3 ⟨rfl, hg⟩
                                  have HG1 := Lib.hid (gr_trans HPS10.out.gr hg)
                                  clear hg
                                  unfold gaveUp
                                  go_wp2_with fail
                                  exact ⟨rfl, .inr ⟨HN.out, rfl⟩, HG1.out⟩
                                | some p =>
                                  obtain ⟨at0, d2⟩ := p
                                  have hd2 : d2 ≤ n := by have := Re.num_some hv2; have := HL.out; omega
                                  go_wp2_with fail
                                  refine (Re.number_at _ rb n c d1 d2 A l at0 HR10.out HY.out hn hc 4 (by omega) (by omega) hv2).mono ?_
                                  rintro e w11 ⟨rfl, hR, hg⟩
                                  have HPS11 := Lib.hid (HPS10.out.up hg)
                                  have HSS11 := Lib.hid (HSS10.out.up hg)
                                  have HR11 := Lib.hid hR
                                  have HV2' := Lib.hid hv2
                                  clear hR hg hbx hv2 HPS10 HSS10 HR10
                                  go_upto_region 17 with (fail)
                                  have hbx := HPS11.out.box
                                  have hc1 := HSS11.out.c1
                                  cases hv3 : num l 1 d2 with
                                  | none =>
                                    have HN : Hid (R0 = none) := Lib.hid (HPP.out (by unfold pPart; rw [HV1'.out]; simp only [Option.bind_some, HV2'.out, hv3]; rfl))
                                    have hcall := Re.number_none w11.drew rb n c d2 A l (HR11.out.drewN 1) hn hd2 1 (by omega) (by omega) hv3
                                    have HGN : Hid (∀ x : World, w11.drew.grownBy x (some rb) → w.grownBy x (some rb)) := Lib.hid (fun x hx => gr_trans (gr_below HPS11.out.gr (belowDrewN (Below.refl _ _) 1) HPS11.out.gr.size) hx)
                                    refine wp_region_held_drew (S := fun w' => w'.cell? ⟨w.heap.size, 0, none⟩ = some (.pointer (some ⟨rb, 0, none⟩)) ∧ w'.cell? ⟨w7.heap.size, 1, none⟩ = some (.slice PA parts.length pc)) (by kernel_rfl) ⟨hbx, hc1⟩ ?_
                                    intro hS
                                    refine wpAnyH_take (i := 0) (v := ?_) rfl (by kernel_rfl) (by kernel_rfl) (by kernel_rfl) (fun _ _ _ h => h) (Or.inl ⟨by rfl, ?_⟩) (by assumption) ?_
                                    rotate_left
                                    · intro w' hSw
                                      obtain ⟨hSw0, hSw1⟩ := hSw
                                      go_simp
                                      first | done | with_reducible rfl
                                    simp only [Act.put, List.setIfInBounds_toArray]
                                    refine wpAnyH_take (i := 1) (v := ?_) rfl (by kernel_rfl) (by kernel_rfl) (by kernel_rfl) (fun _ _ _ h => h) (Or.inl ⟨by rfl, ?_⟩) (by assumption) ?_
                                    rotate_left
                                    · intro w' hSw
                                      obtain ⟨hSw0, hSw1⟩ := hSw
                                      go_simp
                                      first | done | with_reducible rfl
                                    simp only [Act.put]
                                    refine wpAnyH_take (i := 2) (v := ?_) rfl (by kernel_rfl) (by kernel_rfl) (by kernel_rfl) (fun _ _ _ h => h) (Or.inl ⟨by rfl, ?_⟩) (by assumption) ?_
                                    rotate_left
                                    · intro w' hSw
                                      obtain ⟨hSw0, hSw1⟩ := hSw
                                      go_simp
                                      first | done | with_reducible rfl
                                    simp only [Act.put]
                                    refine wpAnyH_take (i := 3) (v := ?_) rfl (by kernel_rfl) (by kernel_rfl) (by kernel_rfl) (fun _ _ _ h => h) (Or.inl ⟨by rfl, ?_⟩) (by assumption) ?_
                                    rotate_left
                                    · intro w' hSw
                                      obtain ⟨hSw0, hSw1⟩ := hSw
                                      go_simp
                                      first | done | with_reducible rfl
                                    simp only [Act.put]
                                    refine wpAnyH_take (i := 4) (v := ?_) rfl (by kernel_rfl) (by kernel_rfl) (by kernel_rfl) (fun _ _ _ h => h) (Or.inl ⟨by rfl, ?_⟩) (by assumption) ?_
                                    rotate_left
                                    · intro w' hSw
                                      obtain ⟨hSw0, hSw1⟩ := hSw
                                      go_simp
                                      first | done | with_reducible rfl
                                    simp only [Act.put]
                                    refine wpAnyH_ready (rs := [5]) (by kernel_rfl) (by decide) (AllReadyH.cons rfl (fun K hK => ?_) AllReadyH.nil)
                                    go_simp
                                    go_at_call 22
                                    refine hcall.mono ?_
                                    rintro e w4 ⟨rfl, hg4⟩
                                    unfold gaveUp
                                    go_wp2_with fail
                                    exact ⟨rfl, .inr ⟨HN.out, rfl⟩, HGN.out _ hg4⟩
                                  | some p =>
                                    obtain ⟨len, d3⟩ := p
                                    have hd3 : d3 ≤ n := by have := Re.num_some hv3; have := HL.out; omega
                                    have HV3' := Lib.hid hv3
                                    have hcall := Re.number_at w11.drew rb n c d2 d3 A l len (HR11.out.drewN 1) HY.out hn hc 1 (by omega) (by omega) hv3
                                    have HPD : Hid (SS w7 w11.drew rb blk PA pc parts) := Lib.hid (HSS11.out.up (Re.grown_below (belowDrewN (Below.refl _ _) 1) _))
                                    have hcl : ∀ x : World, w11.drew.grownBy x (some rb) → x.cell? ⟨w7.heap.size, 1, none⟩ = some (.slice PA parts.length pc) ∧ x.frozen? ⟨w7.heap.size, 1, none⟩ = false ∧ w7.heap.size < x.heap.size := fun x hx => ⟨(HPD.out.up hx).c1, frozen_of_row _ _ 1 _ _ (HPD.out.up hx).b0, (HPD.out.up hx).qs⟩
                                    have hsl : parts.length ≤ 1073741824 := by have := HM10.out.len; omega
                                    have hqs := HSS11.out.qs
                                    clear hv3
                                    go_region_law (first | (go_simp; go_at_call 22; refine hcall.mono ?_; rintro e w4 ⟨rfl, hR4, hg4⟩; have hx4 := hcl w4 hg4; obtain ⟨hx4, hz4, hq4⟩ := hx4) | (refine step_append_lies _ (by rfl) (.tmp 48) (.tmp 54) 76 (by rfl) (w7.heap.size + 1) 80 j0 _ 3 24 Tryz.underlying76 ji jz0 jz1 jz2 rfl (by omega) (.slice PA parts.length pc) parts.length (Sc.cells parts) (by rfl) ((HPD.out.up hg4).own.2.alloc _) ⟨w4.heap.size, 0, none⟩ 1 1 [.int .i64 src, .int .i64 at0, .int .i64 len] (by rfl) (by rfl) (World.news_of_block (heap_alloc_new _ _)) (by simp [Value.oneCell']) (by omega) (by unfold maxLen; omega) (by omega) (by simp; omega) (w4.heap.size + 1) (by simp) ?_; intro g5 k5 w5 hown5 hgrow5 hat5 hlt5; have c15 := (hgrow5.cell_far ⟨w7.heap.size, 1, none⟩ (by simp; omega) (fun e => by have := (row_in (HPD.out.up hg4).own.2 (own_in.1 e.symm)).1; simp only at this; omega)).trans ((World.cell?_alloc_lt _ _ _ hq4).trans hx4); have z15 := (hgrow5.frozen_far ⟨w7.heap.size, 1, none⟩ (by simp; omega) (fun e => by have := (row_in (HPD.out.up hg4).own.2 (own_in.1 e.symm)).1; simp only at this; omega)).trans ((((Below.refl w4.heap.size w4).alloc (Nat.le_refl _) _).frozen (p := ⟨w7.heap.size, 1, none⟩) hq4).trans hz4)))
                                    all_goals
                                      have hpn := SS.push (x := ⟨src, at0, len⟩) (HPD.out.up hg4) (((Below.refl w4.heap.size w4).alloc (Nat.le_refl _) (.cells #[.int .i64 src, .int .i64 at0, .int .i64 len] 80))) hown5 hgrow5
                                      have hrn := rdr_set (rdr_grown (rdr_alloc hR4 (.cells #[.int .i64 src, .int .i64 at0, .int .i64 len] 80)) hgrow5 (fun b hb => by have := (row_in (HPD.out.up hg4).own.2 (own_in.1 hb)).1; have := HPD.out.rl; omega)) ⟨w7.heap.size, 1, none⟩ (.slice (some ⟨g5, 0, none⟩) (parts.length + 1) k5) HPD.out.rl
                                      have HPN := Lib.hid hpn; have HRN := Lib.hid hrn
                                      have HMN := Lib.hid (HM10.out.next (x := ⟨src, at0, len⟩) (b := d3) hlq (by unfold pPart; rw [HV1'.out]; simp only [Option.bind_some, HV2'.out, HV3'.out]; rfl))
                                      clear hpn hrn hown5 hgrow5 hat5 hlt5 c15 z15 hcl hcall hx4 hz4 hq4 hbx hc1 hqs hsl
                                      generalize w5.setCell ⟨w7.heap.size, 1, none⟩ (.slice (some ⟨g5, 0, none⟩) (parts.length + 1) k5) = w13 at *
                                      go_wp2_with fail
                                      go_roundw
                                      case rel => exact ⟨q + 1, d3, k5, some ⟨g5, 0, none⟩, parts ++ [⟨src, at0, len⟩], by go_num, by omega, hd3, Lib.hid ⟨HPN.out, HRN.out, HMN.out⟩⟩
                                      case measure => simp [intOf]; omega
                            · obtain rfl : q = P' := by omega
                              clear hlq hqP
                              have HMK := Lib.hid HK.out.2.2.done
                              have HSSz := Lib.hid HK.out.1
                              have HRz := Lib.hid HK.out.2.1
                              have HWSz := Lib.hid (HWS7.out.up HK.out.1.gr)
                              have s0 := HSSz.out.c0
                              have s1 := HSSz.out.c1
                              have hpo : Sc.Own wr w6.heap.size PA parts.length pc parts := Sc.Own.mono HSSz.out.own (by have := HWS7.out.gr.size; omega)
                              have HPO := Lib.hid hpo
                              have hwsr := HWSz.out.row
                              rw [HTJ.out] at hwsr
                              have HWR := Lib.hid hwsr
                              have hjj : j ≤ 1073741824 := by omega
                              have hgs : w6.heap.size ≤ wr.heap.size := HWSz.out.gr.size
                              clear HK hpo hwsr hbx
                              go_wp2_with (at_builtin; refine wpList_append_own _ rfl (.tmp 58) (.tmp 60) 75 rfl w6.heap.size 78 q0 _ 2 32 Tryz.underlying75 qi qz0 qz1 qz2 rfl (by decide) (.slice A5 j c5) j (stCells T) (by rfl) (HWR.out.2.alloc _) ⟨wr.heap.size, 0, none⟩ 1 1 [.int .i64 blk, .slice PA parts.length pc] (by rfl) (by rfl) (World.news_of_block (heap_alloc_new _ _)) (by simp [Value.oneCell']) (by unfold maxLen; omega) (by omega) (by simp; omega) ?_)
                              intro v' w12 hown6 hgrow6 _
                              have hal : Below wr.heap.size wr (wr.alloc (.cells #[.int .i64 blk, .slice PA parts.length pc] 78)) := (Below.refl _ _).alloc (Nat.le_refl _) _
                              obtain ⟨A6, c6, hv', hws⟩ := WS.push (s := ⟨blk, PA, pc, parts⟩) HWSz.out HPO.out hal (v' := v') (by rw [stCells_one, HTJ.out]; exact hown6) (by rw [HTJ.out]; exact hgrow6)
                              rw [HTJ.out] at hv'
                              subst hv'
                              have hrn := rdr_grown (rdr_alloc HRz.out (.cells #[.int .i64 blk, .slice PA parts.length pc] 78)) hgrow6 (fun b hb => by have := (HWR.out.ty (own_in.1 hb)).1; have := HWSz.out.rl; omega)
                              have HWN := Lib.hid hws
                              have HRN := Lib.hid hrn
                              have HMN := Lib.hid (HMJ.out.next (x := (blk, parts)) (b := a'') hlj (by rw [HTE.out, HMK.out]; rfl))
                              clear hown6 hgrow6 hal hws hrn s0 s1
                              go_wp2_with fail
                              go_roundw
                              case rel => exact ⟨j + 1, a'', c6, A6, T ++ [⟨blk, PA, pc, parts⟩], rfl, by go_num, by omega, ha'', by rw [List.length_append, HTJ.out]; rfl, Lib.hid ⟨HWN.out, HRN.out, by rw [List.map_append]; exact HMN.out⟩⟩
                              case measure => simp [intOf]; omega
                        · have HN : Hid (R0 = none) := Lib.hid (HPT.out (by
                            unfold pStep
                            rw [HV1.out]
                            simp only [Option.bind_some]
                            cases h : num l 1 b1 with
                            | none => rfl
                            | some p => simp only [Option.bind_some]; rw [hnone p.1 p.2 h]; rfl))
                          have HGX := Lib.hid (gr_trans HPS7.out.gr HG78.out)
                          clear hnone
                          go_wp2_with fail
                          refine hcall.mono ?_
                          rintro e w3 ⟨rfl, hg⟩
                          have HG1 := Lib.hid (gr_trans HGX.out hg)
                          clear hg
                          unfold gaveUp
                          go_wp2_with fail
                          exact ⟨rfl, .inr ⟨HN.out, rfl⟩, HG1.out⟩
                    · obtain rfl : j = K' := by omega
                      clear hlj hjK
                      have HMT := Lib.hid HJ.out.2.2.done
                      have HWSe := Lib.hid HJ.out.1
                      have HRe := Lib.hid HJ.out.2.1
                      have hQk : Q.length = k := by have := HMv.out.len; rw [List.length_map] at this; exact this
                      have HQK := Lib.hid hQk
                      have hwv := HPSx.out.own.wv
                      simp only [hQk] at hwv
                      have HWV := Lib.hid hwv
                      have g2 := HPSx.out.c2
                      rw [hQk] at g2
                      have hqs := HPSx.out.qs
                      have hkk : k ≤ 1073741824 := by omega
                      have hg6 : w6.heap.size ≤ wr.heap.size := HWSe.out.gr.size
                      have hq6 := HPS6.out.qs
                      have hal : Below wr.heap.size wr (wr.alloc (.cells #[.slice A5 j c5] 75)) := (Below.refl _ _).alloc (Nat.le_refl _) _
                      have HAL := Lib.hid hal
                      clear HJ hwv hQk hbx hal
                      go_wp2_with (at_builtin; refine wpList_append_own _ rfl (.tmp 64) (.tmp 66) 28 rfl (qb + 1) 75 k0 _ 1 24 Tryz.underlying28 ki kz0 kz1 kz2 rfl (by decide) (.slice WA k wc) k (wvCells Q) (by rfl) (HWV.out.2.alloc _) ⟨wr.heap.size, 0, none⟩ 1 1 [.slice A5 j c5] (by rfl) (by rfl) (World.news_of_block (heap_alloc_new _ _)) (by simp [Value.oneCell']) (by unfold maxLen; omega) (by omega) (by simp; omega) ?_)
                      intro v' w14 hown6 hgrow6 _
                      obtain ⟨WA2, wc2, rfl⟩ : ∃ A cap, v' = .slice A (k + 1) cap := by
                        rcases hown6.2 with ⟨hv, hn⟩ | ⟨g, cap', cur, hv, _⟩
                        · cases hn
                        · exact ⟨_, _, hv⟩
                      have hov : OwnV wr (qb + 1) ⟨A5, c5, T⟩ := OwnV.mono (base := w6.heap.size) ⟨HWSe.out.row, HWSe.out.parts⟩ (by omega)
                      have hps := PS.wave HPSx.out HAL.out (v := ⟨A5, c5, T⟩) hov (fun u hu b hb hb2 => by
                        have h1 := (HWSe.out.row.ty hb).1
                        have h2 := ((HPS6.out.own.ws u hu).row.ty hb2).2.1
                        omega) (WA' := WA2) (wc' := wc2) (by
                        have e : wvCells [(⟨A5, c5, T⟩ : WvV)] = [.slice A5 j c5] := by simp [wvCells, HTJ.out]
                        rw [e]
                        simp only [HQK.out]
                        exact hown6) (by simp only [HQK.out]; exact hgrow6)
                      rw [HQK.out] at hps
                      have hrn := rdr_set (rdr_grown (rdr_alloc HRe.out (.cells #[.slice A5 j c5] 75)) hgrow6 (fun b hb => by have := (HWV.out.ty (own_in.1 hb)).1; have := HPSx.out.rlt; have := HPSx.out.qlt; omega)) ⟨qb, 2, none⟩ (.slice WA2 (k + 1) wc2) (by simp only; have := HPSx.out.rlt; have := HPSx.out.qlt; omega)
                      have HPN := Lib.hid hps; have HRN := Lib.hid hrn
                      have HMN := Lib.hid (HMv.out.next (x := (⟨A5, c5, T⟩ : WvV).wv) (b := a') hlt (by rw [HWE.out, HMT.out]; rfl))
                      have hin6 : ∀ b, (Value.slice WA k wc).ownBlock = some b → qb + 1 ≤ b := fun b hb => (HWV.out.ty (own_in.1 hb)).1
                      have g6 : w14.cell? ⟨qb, 2, none⟩ = some (.slice WA k wc) := (hgrow6.cell_far ⟨qb, 2, none⟩ (by simp; omega) (fun e => by have := hin6 qb e.symm; omega)).trans ((World.cell?_alloc_lt _ _ _ hqs).trans g2)
                      have f6 : w14.frozen? ⟨qb, 2, none⟩ = false := (hgrow6.frozen_far ⟨qb, 2, none⟩ (by simp; omega) (fun e => by have := hin6 qb e.symm; omega)).trans ((HAL.out.frozen (p := ⟨qb, 2, none⟩) hqs).trans (frozen_of_row _ _ 2 _ _ HPSx.out.b2))
                      clear hown6 hgrow6 hps hrn hov hin6 g2
                      go_wp2_with fail
                      clear g6 f6
                      generalize w14.setCell ⟨qb, 2, none⟩ (.slice WA2 (k + 1) wc2) = w15 at *
                      go_roundw
                      case rel => exact ⟨k + 1, a', wc2, WA2, Q ++ [⟨A5, c5, T⟩], by go_num, by omega, ha', Lib.hid ⟨HPN.out, HRN.out, by rw [List.map_append]; exact HMN.out⟩⟩
                      case measure => simp [intOf]; omega
                · have HN : Hid (R0 = none) := Lib.hid (HPW.out (by
                    unfold pWave
                    cases h : num l 1 a with
                    | none => rfl
                    | some p => exact hnone p.1 p.2 h))
                  clear hnone
                  go_wp2_with fail
                  refine hcall.mono ?_
                  rintro e w3 ⟨rfl, hg⟩
                  have HG1 := Lib.hid (gr_trans HPSv.out.gr hg)
                  clear hg
                  unfold gaveUp
                  go_wp2_with fail
                  exact ⟨rfl, .inr ⟨HN.out, rfl⟩, HG1.out⟩
              · obtain rfl : k = M' := by omega
                clear hlt hkM
                have HMW := Lib.hid HI.out.2.2.done
                have HPE := Lib.hid HI.out.1
                have HRE := Lib.hid HI.out.2.1
                clear HI
                have HN : Hid (R0 = some (⟨sz, st, Q.map WvV.wv⟩, a)) := Lib.hid (by rw [← HPL2.out, HMW.out]; rfl)
                have c0 : wr.cell? ⟨qb, 0, none⟩ = some (.int .i64 sz) := cell_of_row _ _ 0 _ 30 (0, 0) HPE.out.b2
                have c1 : wr.cell? ⟨qb, 1, none⟩ = some (.slice SA st.length sc) := HPE.out.c1
                have c2 : wr.cell? ⟨qb, 2, none⟩ = some (.slice WA Q.length wc) := HPE.out.c2
                have p0 : wr.cell? ⟨w.heap.size + 1, 0, none⟩ = some (.int .i64 0) := cell_of_row _ _ 0 _ 30 (0, 0) HPE.out.b1
                have p1 : wr.cell? ⟨w.heap.size + 1, 1, none⟩ = some (.slice none 0 0) := cell_of_row _ _ 1 _ 30 (0, 0) HPE.out.b1
                have p2 : wr.cell? ⟨w.heap.size + 1, 2, none⟩ = some (.slice none 0 0) := cell_of_row _ _ 2 _ 30 (0, 0) HPE.out.b1
                have z0 : wr.frozen? ⟨w.heap.size + 1, 0, none⟩ = false := frozen_of_row _ _ 0 _ _ HPE.out.b1
                have z1 : wr.frozen? ⟨w.heap.size + 1, 1, none⟩ = false := frozen_of_row _ _ 1 _ _ HPE.out.b1
                have z2 : wr.frozen? ⟨w.heap.size + 1, 2, none⟩ = false := frozen_of_row _ _ 2 _ _ HPE.out.b1
                clear hbx
                go_wp2_with fail
                have hh := three_heap HPE.out.b1 (.int .i64 sz) (.slice SA st.length sc) (.slice WA Q.length wc)
                have hsame : ∀ b, b ≠ w.heap.size + 1 → (((wr.setCell ⟨w.heap.size + 1, 0, none⟩ (.int .i64 sz)).setCell ⟨w.heap.size + 1, 1, none⟩ (.slice SA st.length sc)).setCell ⟨w.heap.size + 1, 2, none⟩ (.slice WA Q.length wc)).heap[b]? = wr.heap[b]? := fun b hb => by
                  rw [heap_setCell_other _ _ _ _ hb, heap_setCell_other _ _ _ _ hb, heap_setCell_other _ _ _ _ hb]
                have hop : OwnP (((wr.setCell ⟨w.heap.size + 1, 0, none⟩ (.int .i64 sz)).setCell ⟨w.heap.size + 1, 1, none⟩ (.slice SA st.length sc)).setCell ⟨w.heap.size + 1, 2, none⟩ (.slice WA Q.length wc)) w.heap.size ⟨sz, SA, sc, st, WA, wc, Q⟩ := (HPE.out.own.box fun b hb _ => hsame b (by have := HPE.out.qlt; omega)).mono (by have := HPE.out.qlt; omega)
                have hgr : w.grownBy (((wr.setCell ⟨w.heap.size + 1, 0, none⟩ (.int .i64 sz)).setCell ⟨w.heap.size + 1, 1, none⟩ (.slice SA st.length sc)).setCell ⟨w.heap.size + 1, 2, none⟩ (.slice WA Q.length wc)) (some rb) := by
                  have hb3 := (((Below.refl w.heap.size wr).setCell (p := ⟨w.heap.size + 1, 0, none⟩) (by simp) (.int .i64 sz)).setCell (p := ⟨w.heap.size + 1, 1, none⟩) (by simp) (.slice SA st.length sc)).setCell (p := ⟨w.heap.size + 1, 2, none⟩) (by simp) (.slice WA Q.length wc)
                  exact gr_below HPE.out.gr hb3 (Nat.le_refl _)
                have hrd := rdr_set (rdr_set (rdr_set HRE.out ⟨w.heap.size + 1, 0, none⟩ (.int .i64 sz) (by simp only; omega)) ⟨w.heap.size + 1, 1, none⟩ (.slice SA st.length sc) (by simp only; omega)) ⟨w.heap.size + 1, 2, none⟩ (.slice WA Q.length wc) (by simp only; omega)
                generalize ((wr.setCell ⟨w.heap.size + 1, 0, none⟩ (.int .i64 sz)).setCell ⟨w.heap.size + 1, 1, none⟩ (.slice SA st.length sc)).setCell ⟨w.heap.size + 1, 2, none⟩ (.slice WA Q.length wc) = wf at *
                have e0 : wf.cell? ⟨w.heap.size + 1, 0, none⟩ = some (.int .i64 sz) := cell_of_row _ _ 0 _ 30 (0, 0) hh
                have e1 : wf.cell? ⟨w.heap.size + 1, 1, none⟩ = some (.slice SA st.length sc) := cell_of_row _ _ 1 _ 30 (0, 0) hh
                have e2 : wf.cell? ⟨w.heap.size + 1, 2, none⟩ = some (.slice WA Q.length wc) := cell_of_row _ _ 2 _ 30 (0, 0) hh
                refine bodyPost_ret (v := .agg #[.int .i64 sz, .slice SA st.length sc, .slice WA Q.length wc]) (by simp [results, Tryz.results25, go_sem, e0, e1, e2]) rfl ?_
                exact ⟨.inl ⟨⟨sz, SA, sc, st, WA, wc, Q⟩, _, a, HN.out, rfl, rfl, hop, hrd⟩, hgr⟩
          · have HN : Hid (R0 = none) := Lib.hid (by
              rw [← HPL.out]
              unfold pPlan
              rw [HV.out]
              simp only [Option.bind_some, HV2.out, Int.toNat_natCast, HMD.out]
              cases h : num l 4 a with
              | none => rfl
              | some p => simp only [Option.bind_some]; rw [hnone p.1 p.2 h]; rfl)
            clear hnone
            go_wp2_with fail
            refine hcall.mono ?_
            rintro e w3 ⟨rfl, hg⟩
            have HG1 := Lib.hid (gr_trans HPS4.out.gr hg)
            clear hg
            unfold gaveUp
            go_wp2_with fail
            exact ⟨rfl, .inr ⟨HN.out, rfl⟩, HG1.out⟩
    · have HN : Hid (R0 = none) := Lib.hid (by
        rw [← HPL.out]
        unfold pPlan
        rw [HV.out]
        simp only [Option.bind_some]
        cases h : num l 4 a1 with
        | none => rfl
        | some p => simp only [Option.bind_some]; rw [hnone p.1 p.2 h]; rfl)
      clear hnone
      go_wp2_with fail
      refine hcall.mono ?_
      rintro e w3 ⟨rfl, hg⟩
      have HG1 := Lib.hid (gr_trans HPS.out.gr hg)
      clear hg
      unfold gaveUp
      go_wp2_with fail
      exact ⟨rfl, .inr ⟨HN.out, rfl⟩, HG1.out⟩
end Go.Proofs.YtblibmalommdkaaGreat
