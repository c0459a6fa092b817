/-
  That RebaseRescues is true, for all targets and lists.
-/
import Derived.Test.YtdpjblepcpjomaaVRows
import Derived.Test.YtdpjblepcpjomaaLAwake
import Derived.Test.YtdpjblepcpjomaaWRefc
namespace Go.Proofs.Ytdpjblepcpjomaa.Rb
open Go.RowKit
open Classical in
noncomputable def mayA (T : List S) (ls : List (List S)) : Bool := decide (MayX T ∧ ∀ l ∈ ls, MayX l)
theorem mayA_nil (T : List S) : mayA T [] = mayX T := by unfold mayA mayX; simp
theorem mayA_snoc (T : List S) {ls : List (List S)} {k : Nat} {l : List S} (h : ls[k]? = some l) : mayA T (ls.take (k+1)) = (mayA T (ls.take k) && mayX l) := by
  rw [Sc.take_snoc ls k l h]
  unfold mayA mayX
  rw [Bool.eq_iff_iff]
  simp only [decide_eq_true_eq, Bool.and_eq_true, List.mem_append, List.mem_singleton, or_imp, forall_and, forall_eq]
  exact ⟨fun ⟨a, b, c⟩ => ⟨⟨a, b⟩, c⟩, fun ⟨⟨a, b⟩, c⟩ => ⟨a, b, c⟩⟩
theorem small_snoc {ls : List (List S)} {k : Nat} {l : List S} (h : ls[k]? = some l) (h1 : ∀ m ∈ ls.take k, smallB m = true) (h2 : smallB l = true) : ∀ m ∈ ls.take (k+1), smallB m = true := by
  rw [Sc.take_snoc ls k l h]
  intro m hm
  rcases List.mem_append.1 hm with hm | hm
  · exact h1 m hm
  · simp at hm; subst hm; exact h2
theorem small_flat {ls : List (List S)} (h : ∀ l ∈ ls, smallB l = true) : ls.flatten.length ≤ 20 * ls.length := by
  induction ls with
  | nil => simp
  | cons a l ih =>
    have h1 := (small_parts (h a (by simp))).1
    have h2 := ih fun m hm => h m (List.mem_cons_of_mem _ hm)
    simp only [List.flatten_cons, List.length_append, List.length_cons]; omega
theorem small_tot {ls : List (List S)} (h : ∀ l ∈ ls, smallB l = true) (hM : ∀ l ∈ ls, MayX l) : Sc.tot ls.flatten ≤ 400 * ls.length := by
  induction ls with
  | nil => simp [Sc.tot]
  | cons a l ih =>
    have h1 := (small_parts (h a (by simp))).2 (hM a (by simp)).2
    have h2 := ih (fun m hm => h m (List.mem_cons_of_mem _ hm)) (fun m hm => hM m (List.mem_cons_of_mem _ hm))
    simp only [List.flatten_cons, Sc.tot_append, List.length_cons]; omega
set_option maxHeartbeats 1600000 in
set_option maxRecDepth 100000 in
theorem rescues_walk (A0 : Option Addr) (len0 cap0 : Nat) (A1 : Option Addr) (len1 cap1 : Nat) (w : World) (T : List S) (ls : List (List S))
    (hl0 : T.length = len0) (hr0 : Sc.Rd w w.heap.size A0 T) (hn0 : A0 = none → len0 = 0 ∧ cap0 = 0) (hm0 : len0 ≤ 9223372036854775807)
    (hl1 : ls.length = len1) (hr1 : RdLN w w.heap.size A1 ls) (hm1 : len1 ≤ 9223372036854775807) :
    Calls Try.prog 3 #[.slice A0 len0 cap0, .slice A1 len1 cap1] w fun e w' => e = .returned (.bool true) ∧ Below w.heap.size w w' := by
  have L0 := Lib.hid hl0; have T_0 := Lib.hid hr0; have N0 := Lib.hid hn0
  have L1 := Lib.hid hl1; have R_0 := Lib.hid hr1
  obtain ⟨i1, hj, hy0, hy1, hy2⟩ := info_parts info22
  clear hl0 hr0 hn0 hl1 hr1
  cases hsT : smallB T with
  | false =>
    go_enter Try.func3, Try.ntmps3
    go_wp2_with fail
    refine (awake_any _).mono ?_
    rintro e w1 ⟨rfl, b1⟩
    have T_1 := Lib.hid (T_0.out.up b1)
    have R_1 := Lib.hid (R_0.out.up b1)
    have B_1 := Lib.hid (b1)
    clear b1 T_0 R_0
    go_wp2_with fail
    refine (small_any A0 len0 cap0 _ T L0.out T_1.out (by omega)).mono ?_
    rintro e w2 ⟨rfl, b2⟩
    have T_2 := Lib.hid (T_1.out.up b2)
    have R_2 := Lib.hid (R_1.out.up b2)
    have B_2 := Lib.hid (below_up B_1.out b2)
    rw [hsT]
    clear b2 T_1 R_1 B_1
    go_wp2_with fail
    refine (awake_any _).mono ?_
    rintro e w3 ⟨rfl, b3⟩
    have T_3 := Lib.hid (T_2.out.up b3)
    have R_3 := Lib.hid (R_2.out.up b3)
    have B_3 := Lib.hid (below_up B_2.out b3)
    clear b3 T_2 R_2 B_2
    go_wp2_with fail
    go_ret
    exact ⟨rfl, B_3.out⟩
  | true =>
    have sT := (small_parts hsT).1
    rw [L0.out] at sT
    by_cases h6 : len1 ≤ 6
    · have d6 : decide (6 < (len1 : Int)) = false := decide_eq_false (by omega)
      go_enter Try.func3, Try.ntmps3
      go_wp2_with fail
      refine (awake_any _).mono ?_
      rintro e w1 ⟨rfl, b1⟩
      have T_1 := Lib.hid (T_0.out.up b1)
      have R_1 := Lib.hid (R_0.out.up b1)
      have B_1 := Lib.hid (b1)
      clear b1 T_0 R_0
      go_wp2_with fail
      refine (small_any A0 len0 cap0 _ T L0.out T_1.out (by omega)).mono ?_
      rintro e w2 ⟨rfl, b2⟩
      have T_2 := Lib.hid (T_1.out.up b2)
      have R_2 := Lib.hid (R_1.out.up b2)
      have B_2 := Lib.hid (below_up B_1.out b2)
      rw [hsT]
      clear b2 T_1 R_1 B_1
      go_wp2_with fail
      refine (refMay_any A0 len0 cap0 _ T L0.out T_2.out (by omega)).mono ?_
      rintro e w3 ⟨rfl, b3⟩
      have T_3 := Lib.hid (T_2.out.up b3)
      have R_3 := Lib.hid (R_2.out.up b3)
      have B_3 := Lib.hid (below_up B_2.out b3)
      clear b3 T_2 R_2 B_2
      go_wp2_with fail
      generalize hBB : w3.heap.size = BB at *
      have HB := Lib.hid hBB; clear hBB
      go_loopw [5, 6, 7] (fun mm v i wr => ∃ k A' c vs, k ≤ len1 ∧ i = .int .i64 (k : Nat) ∧ mm = .bool (mayA T (ls.take k)) ∧ v = .slice A' k c ∧ Hid (OwnV wr BB A' k c vs) ∧ Hid (LVs wr (Value.slice A' k c).ownBlock vs Sc.mk2 (ls.take k)) ∧ Hid (∀ l ∈ ls.take k, smallB l = true) ∧ Hid (Below BB w3 wr)) (fun _ _ i _ => len1 - (intOf i).toNat)
      case atStart => exact ⟨0, none, 0, [], Nat.zero_le _, rfl, by rw [List.take_zero, mayA_nil], rfl, Lib.hid (OwnV.nil _ _), Lib.hid (LVs.nil _ _ _ _), Lib.hid (fun l h => by simp at h), Lib.hid (Below.refl _ _)⟩
      case round =>
        obtain ⟨k, A', c, vs, hk, rfl, rfl, rfl, hown, hlv, hsm, hb⟩ := hrel
        have hsz : BB ≤ wr.heap.size := by have := hb.out.size; have := HB.out; omega
        by_cases hlt : k < len1
        · obtain ⟨l, hl⟩ := Sc.get_some ls k (by have := L1.out; omega)
          have HL := Lib.hid hl
          obtain ⟨b, off, Ak, ck, rfl, hb', c0, hnk, hmk, _, hrd⟩ := R_3.out.below hb.out (by have := HB.out; omega) k l hl
          have HRk := Lib.hid (hrd.more hsz)
          have HNk := Lib.hid hnk
          have hbz : b < wr.heap.size := by have := HB.out; omega
          clear hl hrd hnk
          cases hsl : smallB l with
          | false =>
            go_wp2_with fail
            refine (small_any Ak l.length ck _ l rfl HRk.out hmk).mono ?_
            rintro e w4 ⟨rfl, hb4⟩
            rw [hsl]
            have B_4 := Lib.hid (below_up B_3.out (by rw [HB.out]; exact hb.out.trans (hb4.mono hsz)))
            clear hb4
            go_wp2_with fail
            go_ret
            exact ⟨rfl, B_4.out⟩
          | true =>
            have hsl20 := (small_parts hsl).1
            have HSM := Lib.hid (small_snoc HL.out hsm.out hsl)
            have HMA := Lib.hid (mayA_snoc T HL.out)
            cases hma : mayA T (ls.take k) with
            | true =>
                go_wp2_with fail
                refine (small_any Ak l.length ck _ l rfl HRk.out hmk).mono ?_
                rintro e w4 ⟨rfl, hb4⟩
                rw [hsl]
                have c4 : w4.cell? ⟨b, off + k, none⟩ = some (.slice Ak l.length ck) := (hb4.cell (p := ⟨b, off + k, none⟩) hbz).trans c0
                have HRk4 := Lib.hid (HRk.out.up hb4)
                have Hb4 := Lib.hid hb4
                clear hb4
                go_wp2_with fail
                refine (refMay_any Ak l.length ck _ l rfl HRk4.out hmk).mono ?_
                rintro e w5 ⟨rfl, hb5⟩
                have Hb5 := Lib.hid (below_up Hb4.out hb5)
                clear hb5 Hb4 HRk4 c4
                have c0' : w5.cell? ⟨b, off + k, none⟩ = some (.slice Ak l.length ck) := (Hb5.out.cell (p := ⟨b, off + k, none⟩) hbz).trans c0
                have HRk5 := Lib.hid (HRk.out.up Hb5.out)
                clear c0
                go_wp2_with fail
                refine (Sc.Lent_any Ak l.length ck _ l rfl HRk5.out HNk.out (by omega)).mono ?_
                rintro e w6 ⟨⟨g, c6, rfl, o6⟩, hb6⟩
                have hc6 := o6.cap
                unfold maxLen at hc6
                obtain ⟨g', e6, hg6, hg7, _⟩ := o6.form (by omega)
                cases e6
                have Hb6 := Lib.hid (below_up Hb5.out hb6)
                have hW6 : wr.heap.size ≤ w6.heap.size := Hb6.out.size
                have ho6 := Lib.hid (hown.out.below Hb6.out (Nat.le_refl _))
                have hx6 : LV w6 (Value.slice A' k c).ownBlock (.slice (some ⟨g, 0, none⟩) l.length c6) Sc.mk2 l := ⟨_, c6, rfl, by simp [Sc.mk2]; omega, by omega, fun _ b' off' e => by cases e; intro e; have := (hown.out.2.lt _ e.symm).2; have := Hb5.out.size; omega, o6.rd⟩
                have HX6 := Lib.hid hx6
                have HV6 := Lib.hid (hlv.out.up Hb6.out)
                have B6 := Lib.hid (hb.out.trans (Hb6.out.mono hsz))
                clear hx6 hb6 o6 hlv hown hb HRk HRk5 c0'
                go_wp2_with (at_builtin; refine wpList_append_block rfl _ _ 23 rfl BB 22 i1 _ 1 24 Try.underlying23 hj hy0 hy1 hy2 rfl (by decide) _ _ _ rfl (ho6.out.alloc _).2 ⟨w6.heap.size, 0, none⟩ 1 1 [.slice (some ⟨g, 0, none⟩) l.length c6] rfl rfl (newv_one _ _ _ rfl) (by intro u hu; simp at hu; subst hu; rfl) (by unfold maxLen; omega) (by omega) (by simp; omega) ?_)
                intro v' w7 hown' hgrow hblk
                obtain ⟨⟨A7, c7, hv, hown7⟩, hb7, _, _, _⟩ := appV_step ho6.out B6.out (by omega) ((Below.refl _ _).alloc (Nat.le_refl _) _) (m := 1) (K := [.slice (some ⟨g, 0, none⟩) l.length c6]) rfl hown' hgrow
                have hva : Below w6.heap.size w6 (w6.alloc (.cells #[.slice (some ⟨g, 0, none⟩) l.length c6] 22)) := (Below.refl _ _).alloc (Nat.le_refl _) _
                rw [hv] at hblk
                have hnew := Lib.hid (LVs.grown (row' := (Value.slice A7 (k+1) c7).ownBlock) (HV6.out.up hva) (by rw [ho6.out.1, List.length_take]; have := L1.out; omega) (HX6.out.up hva) hgrow (by rw [show (w6.alloc (.cells #[.slice (some ⟨g, 0, none⟩) l.length c6] 22)).heap.size = w6.heap.size + 1 by simp]; exact hblk))
                rw [← Sc.take_snoc ls k l HL.out] at hnew
                have HO7 := Lib.hid hown7; have HB7 := Lib.hid hb7
                rw [hv]
                clear hgrow hown' hv hown7 hb7 hblk hva HV6 HX6 ho6 B6
                go_wp2_with fail
                go_roundw
                case rel => exact ⟨k+1, A7, c7, _, by omega, by go_num, by rw [HMA.out, hma, Bool.true_and], rfl, HO7, hnew, HSM, HB7⟩
                case measure => simp [intOf]; omega
            | false =>
                go_wp2_with fail
                refine (small_any Ak l.length ck _ l rfl HRk.out hmk).mono ?_
                rintro e w5 ⟨rfl, hb5⟩
                rw [hsl]
                have c5 : w5.cell? ⟨b, off + k, none⟩ = some (.slice Ak l.length ck) := (hb5.cell (p := ⟨b, off + k, none⟩) hbz).trans c0
                have HRk4 := Lib.hid (HRk.out.up hb5)
                have Hb5 := Lib.hid hb5
                clear hb5
                have HRk5 := Lib.hid (HRk.out.up Hb5.out)
                clear c0 HRk4
                go_wp2_with fail
                refine (Sc.Lent_any Ak l.length ck _ l rfl HRk5.out HNk.out (by omega)).mono ?_
                rintro e w6 ⟨⟨g, c6, rfl, o6⟩, hb6⟩
                have hc6 := o6.cap
                unfold maxLen at hc6
                obtain ⟨g', e6, hg6, hg7, _⟩ := o6.form (by omega)
                cases e6
                have Hb6 := Lib.hid (below_up Hb5.out hb6)
                have hW6 : wr.heap.size ≤ w6.heap.size := Hb6.out.size
                have ho6 := Lib.hid (hown.out.below Hb6.out (Nat.le_refl _))
                have hx6 : LV w6 (Value.slice A' k c).ownBlock (.slice (some ⟨g, 0, none⟩) l.length c6) Sc.mk2 l := ⟨_, c6, rfl, by simp [Sc.mk2]; omega, by omega, fun _ b' off' e => by cases e; intro e; have := (hown.out.2.lt _ e.symm).2; have := Hb5.out.size; omega, o6.rd⟩
                have HX6 := Lib.hid hx6
                have HV6 := Lib.hid (hlv.out.up Hb6.out)
                have B6 := Lib.hid (hb.out.trans (Hb6.out.mono hsz))
                clear hx6 hb6 o6 hlv hown hb HRk HRk5 c5
                go_wp2_with (at_builtin; refine wpList_append_block rfl _ _ 23 rfl BB 22 i1 _ 1 24 Try.underlying23 hj hy0 hy1 hy2 rfl (by decide) _ _ _ rfl (ho6.out.alloc _).2 ⟨w6.heap.size, 0, none⟩ 1 1 [.slice (some ⟨g, 0, none⟩) l.length c6] rfl rfl (newv_one _ _ _ rfl) (by intro u hu; simp at hu; subst hu; rfl) (by unfold maxLen; omega) (by omega) (by simp; omega) ?_)
                intro v' w7 hown' hgrow hblk
                obtain ⟨⟨A7, c7, hv, hown7⟩, hb7, _, _, _⟩ := appV_step ho6.out B6.out (by omega) ((Below.refl _ _).alloc (Nat.le_refl _) _) (m := 1) (K := [.slice (some ⟨g, 0, none⟩) l.length c6]) rfl hown' hgrow
                have hva : Below w6.heap.size w6 (w6.alloc (.cells #[.slice (some ⟨g, 0, none⟩) l.length c6] 22)) := (Below.refl _ _).alloc (Nat.le_refl _) _
                rw [hv] at hblk
                have hnew := Lib.hid (LVs.grown (row' := (Value.slice A7 (k+1) c7).ownBlock) (HV6.out.up hva) (by rw [ho6.out.1, List.length_take]; have := L1.out; omega) (HX6.out.up hva) hgrow (by rw [show (w6.alloc (.cells #[.slice (some ⟨g, 0, none⟩) l.length c6] 22)).heap.size = w6.heap.size + 1 by simp]; exact hblk))
                rw [← Sc.take_snoc ls k l HL.out] at hnew
                have HO7 := Lib.hid hown7; have HB7 := Lib.hid hb7
                rw [hv]
                clear hgrow hown' hv hown7 hb7 hblk hva HV6 HX6 ho6 B6
                go_wp2_with fail
                go_roundw
                case rel => exact ⟨k+1, A7, c7, _, by omega, by go_num, by rw [HMA.out, hma, Bool.false_and], rfl, HO7, hnew, HSM, HB7⟩
                case measure => simp [intOf]; omega
        · obtain rfl : k = len1 := by omega
          clear hlt
          have e1 : ls.take k = ls := by rw [List.take_of_length_le (Nat.le_of_eq L1.out)]
          rw [e1] at hlv hsm ⊢
          obtain rfl := HB.out
          have B_4 := Lib.hid (below_up B_3.out hb.out)
          have R_4 := Lib.hid (R_3.out.up hb.out)
          have T_4 := Lib.hid (T_3.out.up hb.out)
          have V_4 := Lib.hid hown.out
          have X_4 := Lib.hid hlv.out
          clear e1 hlv hown hb B_3 R_3 T_3
          clear HB
          go_wp2_with fail
          refine (Sc.Lent_any A0 len0 cap0 _ T L0.out T_4.out N0.out (by omega)).mono ?_
          rintro e w5 ⟨⟨g5, c5, rfl, o5⟩, b5⟩
          have hc5 := o5.cap
          unfold maxLen at hc5
          have T_5 := Lib.hid (T_4.out.up b5)
          have R_5 := Lib.hid (R_4.out.up b5)
          have V_5 := Lib.hid (V_4.out.up b5)
          have X_5 := Lib.hid (X_4.out.up b5)
          have B_5 := Lib.hid (below_up B_4.out b5)
          have LT_5 := Lib.hid (o5.rd)
          clear o5
          clear b5 T_4 R_4 V_4 X_4 B_4
          go_wp2_with fail
          refine (Rescue_any (some ⟨g5, 0, none⟩) len0 c5 A' k c _ T ls L0.out LT_5.out.left (by omega) L1.out (X_5.out.rdl V_5.out) (by omega) (by have := small_flat hsm.out; have := L1.out; omega)).mono ?_
          rintro e w6 ⟨⟨A6, n6, c6, rfl, o6⟩, b6⟩
          have T_6 := Lib.hid (T_5.out.up b6)
          have R_6 := Lib.hid (R_5.out.up b6)
          have V_6 := Lib.hid (V_5.out.up b6)
          have X_6 := Lib.hid (X_5.out.up b6)
          have LT_6 := Lib.hid (LT_5.out.up b6)
          have B_6 := Lib.hid (below_up B_5.out b6)
          have M_6 := Lib.hid (o6.rd)
          have K6 := Lib.hid o6.1
          have hc6 := o6.cap
          unfold maxLen at hc6
          clear o6
          clear b6 T_5 R_5 V_5 X_5 LT_5 B_5
          go_wp2_with fail
          go_loopw [11] (fun i wr => ∃ j : Nat, j ≤ k ∧ i = .int .i64 j ∧ Hid (Below w6.heap.size w6 wr)) (fun i _ => k - (intOf i).toNat)
          case atStart => exact ⟨0, Nat.zero_le _, rfl, Lib.hid (Below.refl _ _)⟩
          case round =>
            obtain ⟨j, hj', rfl, hb⟩ := hrel
            by_cases hlt : j < k
            · obtain ⟨l, hl⟩ := Sc.get_some ls j (by have := L1.out; omega)
              obtain ⟨b, off, Ak, ck, rfl, hb', c0, hnk, hmk, _, hrd⟩ := R_6.out.up hb.out j l hl
              obtain ⟨v, hv, Ax, cx, rfl, hcx, hcx2, _, hrx⟩ := X_6.out.up hb.out j l hl
              obtain ⟨b2, off2, rfl, hb2', d0⟩ := (V_6.out.up hb.out).get hv
              have CK : Hid (∀ n, Calls Try.prog 13 #[.slice Ax l.length cx, .slice Ak l.length ck] (wr.drewN n) fun e w' => e = .returned (.bool true) ∧ ∃ m, w' = wr.drewN m) := Lib.hid (fun n => (kept_q Ax l.length cx Ak ck _ l rfl (hrx.up (belowDrewN (Below.refl _ _) n)) (by simpa [Sc.mk2] using hcx) hcx2 (hrd.up (belowDrewN (Below.refl _ _) n))).mono fun _ _ h => ⟨h.1, by obtain ⟨m, hm⟩ := h.2; exact ⟨n + m, by rw [hm]; simp⟩⟩)
              clear hl hnk hrd hv hrx
              go_wp2_with fail
              go_quiet (exact CK.out _)
              go_wp2_with fail
              go_roundw
              case rel => exact ⟨j+1, by omega, by go_num, Lib.hid (belowDrewN hb.out _)⟩
              case measure => simp [intOf]; omega
            · obtain rfl : j = k := by omega
              clear hlt
              have T_7 := Lib.hid (T_6.out.up hb.out)
              have R_7 := Lib.hid (R_6.out.up hb.out)
              have LT_7 := Lib.hid (LT_6.out.up hb.out)
              have M_7 := Lib.hid (M_6.out.up hb.out)
              have B_7 := Lib.hid (below_up B_6.out hb.out)
              clear hb T_6 R_6 LT_6 M_6 B_6 V_6 X_6
              go_wp2_with fail
              refine (Sc.Kept_any (some ⟨g5, 0, none⟩) len0 c5 A0 cap0 _ T L0.out LT_7.out (by omega) (by omega) T_7.out).mono ?_
              rintro e w8 ⟨rfl, b8⟩
              have T_8 := Lib.hid (T_7.out.up b8)
              have R_8 := Lib.hid (R_7.out.up b8)
              have M_8 := Lib.hid (M_7.out.up b8)
              have B_8 := Lib.hid (below_up B_7.out b8)
              clear b8 T_7 R_7 LT_7 M_7 B_7
              cases hma : mayA T ls with
              | false =>
                have hno : ¬ (MayX T ∧ ∀ l ∈ ls, MayX l) := by unfold mayA at hma; simpa using hma
                have hE := rescueE_no hno
                rw [rescueL_no hno] at K6
                obtain rfl : n6 = 0 := K6.out.symm
                clear hno hma
                go_wp2_with fail
                go_ret
                exact ⟨rfl, B_8.out⟩
              | true =>
                have hyes : MayX T ∧ ∀ l ∈ ls, MayX l := by unfold mayA at hma; simpa using hma
                have hE := rescueE_yes hyes.1 hyes.2
                rw [rescueL_yes hyes.1 hyes.2] at K6 M_8
                have HY := Lib.hid hyes
                clear hyes hma
                go_wp2_with fail
                refine (refRescue_any A0 len0 cap0 A1 j cap1 _ T ls L0.out T_8.out L1.out R_8.out.rd (by omega) HY.out.1 HY.out.2 (by have := small_tot hsm.out HY.out.2; have := L1.out; omega)).mono ?_
                rintro e w9 ⟨⟨A9, n9, c9, rfl, o9⟩, b9⟩
                have M_9 := Lib.hid (M_8.out.up b9)
                have B_9 := Lib.hid (below_up B_8.out b9)
                have K9 := Lib.hid o9.1
                have Q_9 := Lib.hid o9.rd
                have hc9 := o9.cap
                unfold maxLen at hc9
                clear b9 o9 T_8 R_8 M_8 B_8
                go_wp2_with fail
                refine (Same_any A6 n6 c6 A9 n9 c9 _ (rescueR T ls) (rescueR T ls) K6.out M_9.out (by omega) K9.out Q_9.out (by omega)).mono ?_
                rintro e w10 ⟨rfl, b10⟩
                rw [show decide (rescueR T ls = rescueR T ls) = true from decide_eq_true rfl]
                have B_10 := Lib.hid (below_up B_9.out b10)
                clear b10 B_9
                go_wp2_with fail
                go_ret
                exact ⟨rfl, B_10.out⟩
    · have d6 : decide (6 < (len1 : Int)) = true := decide_eq_true (by omega)
      go_enter Try.func3, Try.ntmps3
      go_wp2_with fail
      refine (awake_any _).mono ?_
      rintro e w1 ⟨rfl, b1⟩
      have T_1 := Lib.hid (T_0.out.up b1)
      have R_1 := Lib.hid (R_0.out.up b1)
      have B_1 := Lib.hid (b1)
      clear b1 T_0 R_0
      go_wp2_with fail
      refine (small_any A0 len0 cap0 _ T L0.out T_1.out (by omega)).mono ?_
      rintro e w2 ⟨rfl, b2⟩
      have T_2 := Lib.hid (T_1.out.up b2)
      have R_2 := Lib.hid (R_1.out.up b2)
      have B_2 := Lib.hid (below_up B_1.out b2)
      rw [hsT]
      clear b2 T_1 R_1 B_1
      go_wp2_with fail
      refine (awake_any _).mono ?_
      rintro e w3 ⟨rfl, b3⟩
      have T_3 := Lib.hid (T_2.out.up b3)
      have R_3 := Lib.hid (R_2.out.up b3)
      have B_3 := Lib.hid (below_up B_2.out b3)
      clear b3 T_2 R_2 B_2
      go_wp2_with fail
      go_ret
      exact ⟨rfl, B_3.out⟩
end Go.Proofs.Ytdpjblepcpjomaa.Rb
