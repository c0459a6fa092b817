/-
  MovesStash' law: the stash has no more bytes than the target has of the original, and none if the target's pieces of the original rise.
-/
import Derived.Test.YteceephenfmdoaaNAwake
import Derived.Test.YteceephenfmdoaaLStashp
namespace Go.Proofs.Yteceephenfmdoaa
open Go.RowKit
set_option maxRecDepth 100000 in
set_option maxHeartbeats 4000000 in
theorem stash_walk (size0 : Int) (A : Option Addr) (len cap : Nat) (rise : Bool) (most : Int) (w : World) (parts : List S) (hlen : parts.length = len) (hr : Sc.Rd w w.heap.size A parts) (hl9 : len ≤ 9223372036854775807) (hI : ∀ x ∈ parts, I64 x.src ∧ I64 x.at_ ∧ I64 x.len) (hs : I64 size0) (hm : I64 most) :
    Calls Try.prog 7 #[.int .i64 size0, .slice A len cap, .bool rise, .int .i64 most] w fun e w' => e = .returned (.bool true) ∧ Below w.heap.size w w' := by
  obtain ⟨i0, hi, hz0, hz1, hz2⟩ := info_parts Sc.info31
  have HL := Lib.hid hlen; have HR := Lib.hid hr; have HI := Lib.hid hI
  clear hlen hr hI
  unfold I64 at hs hm
  have s0 := Int.emod_nonneg size0 (show (3000 : Int) ≠ 0 by omega)
  have s1 := Int.emod_lt_of_pos size0 (show (0 : Int) < 3000 by omega)
  by_cases h40 : 40 < len
  · have f0 : decide ((40 : Int) < (len : Int)) = true := decide_eq_true (by omega)
    clear h40
    go_enter Try.func7, Try.ntmps7
    go_wp2_with fail
    refine (Pick_any size0 3000 w (by omega) (by omega) hs.1 hs.2).mono ?_
    rintro e w1 ⟨rfl, rfl⟩
    go_wp2_with fail
    refine (awake_any w).mono ?_
    rintro e w1 ⟨rfl, hb1⟩
    have HB1 := Lib.hid hb1
    clear hb1
    go_wp2_with fail
    refine (awake_any w1).mono ?_
    rintro e w2 ⟨rfl, hb2⟩
    have HB2 := Lib.hid (HB1.out.trans (hb2.mono HB1.out.size))
    clear hb2
    go_wp2_with fail
    go_ret
    exact ⟨rfl, HB2.out⟩
  have f0 : decide ((40 : Int) < (len : Int)) = false := decide_eq_false (by omega)
  have hl40 : len ≤ 40 := by omega
  clear h40
  go_enter Try.func7, Try.ntmps7
  go_wp2_with fail
  refine (Pick_any size0 3000 w (by omega) (by omega) hs.1 hs.2).mono ?_
  rintro e w1 ⟨rfl, rfl⟩
  generalize size0 % 3000 = size at *
  go_wp2_with fail
  refine (awake_any w).mono ?_
  rintro e w1 ⟨rfl, hb1⟩
  have HB1 := Lib.hid hb1
  have HR1 := Lib.hid (HR.out.up hb1)
  clear hb1
  go_wp2_with fail
  refine (target_any A len cap parts size 100 w1 HL.out HR1.out HI.out (by omega) (by omega) (by omega)).mono ?_
  rintro e w2 ⟨⟨TA, tn, tc, rfl, ho2⟩, hb2⟩
  have htm := target_may (size := size) (tail := 100) (by omega) (by omega) (parts := parts) (by have := HL.out; omega)
  have htt := target_tot (size := size) (tail := 100) (by omega) (by omega) (M := 3000) (by omega) parts
  have htl := targetL_len parts size 100
  have hplen := HL.out
  have htt2 : Sc.tot (targetL parts size 100) ≤ 120000 := by
    have : (parts.length : Int) * 3000 ≤ 40 * 3000 := by omega
    omega
  generalize targetL parts size 100 = l at *
  have hn40 : tn ≤ 40 := by have := ho2.1; omega
  have HB2 := Lib.hid (HB1.out.trans (hb2.mono HB1.out.size))
  have HO2 := Lib.hid ho2
  have HT := Lib.hid htm
  have HTT := Lib.hid htt2
  have hcap2 := ho2.cap
  unfold maxLen at hcap2
  clear hb2 ho2 htm htt htl hplen htt2 HB1 HR1
  go_upto_if 32 with (fail)
  go_cut [9] (fun v wx => ∃ (A2 : Option Addr) (n2 c2 : Nat) (l2 : List S), v = .slice A2 n2 c2 ∧ n2 ≤ 40 ∧ Hid (l2.length = n2 ∧ Sc.Rd wx wx.heap.size A2 l2 ∧ TargetP l2 size ∧ Sc.tot l2 ≤ 120000 ∧ (rise = true → Rises l2) ∧ Below w2.heap.size w2 wx))
  case first =>
    cases rise with
    | false =>
      go_wp2_with fail
      go_meet
      exact ⟨TA, tn, tc, l, rfl, hn40, Lib.hid ⟨HO2.out.1, HO2.out.rd, HT.out, HTT.out, (fun h => by cases h), Below.refl _ _⟩⟩
    | true =>
      go_wp2_with fail
      generalize hB2 : w2.heap.size = B2 at *
      have HEB := Lib.hid hB2
      clear hB2
      go_loopw [10, 11, 12] (fun x v i wx => ∃ (k : Nat) (A' : Option Addr) (n c : Nat), k ≤ tn ∧ i = .int .i64 k ∧ v = .slice A' n c ∧ n ≤ k ∧ Hid (x = .int .i64 (keepF (l.take k)).1) ∧ Hid (Sc.Own wx B2 A' n c (keepF (l.take k)).2 ∧ Below B2 w2 wx)) (fun _ _ i _ => tn - (intOf i).toNat)
      case atStart => exact ⟨0, none, 0, 0, Nat.zero_le _, rfl, rfl, Nat.le_refl _, Lib.hid rfl, Lib.hid ⟨Sc.Own.nil _ _, Below.refl _ _⟩⟩
      case round =>
        obtain ⟨k, A', n, c, hk, rfl, rfl, hn, HX, HJ⟩ := hrel
        have hszr : B2 ≤ wr.heap.size := by have := HJ.out.2.size; have := HEB.out; omega
        have hcap := HJ.out.1.cap
        unfold maxLen at hcap
        have HX' := HX.out
        subst HX'
        by_cases hlt : k < tn
        · obtain ⟨x, hx⟩ := Sc.get_some l k (by have := HO2.out.1; omega)
          have hrd := HO2.out.rd
          rw [HEB.out] at hrd
          obtain ⟨b, off, rfl, hbb, d0, d1, d2⟩ := (hrd.below HJ.out.2 (Nat.le_refl _)) k x hx
          have hok := HT.out.may.1 x (List.mem_of_getElem? hx)
          have HKN := Lib.hid (keepF_next hx)
          have hlast := (kept_all HT.out.may.1 k).lo
          generalize hst : keepF (l.take k) = st at *
          obtain ⟨last, kept⟩ := st
          obtain ⟨src, at_, xl⟩ := x
          unfold Sc.okS at hok
          simp only at d0 d1 d2 hok hlast
          have hwr : IntKind.i64.wrap (at_ + xl) = at_ + xl := IntWalk.i64_in _ (by omega)
          have j0 : (0 : Int) ≤ (k : Int) := by omega
          have j1 : (k : Int) < (tn : Int) := by omega
          clear hx hrd hst
          by_cases h0 : src = 0
          · have f1 : (src == 0) = true := by simpa using h0
            by_cases h1 : at_ < last
            · have f2 : decide (at_ < last) = true := decide_eq_true h1
              have HE : Hid (keepF (l.take (k + 1)) = (last, kept)) := Lib.hid (by rw [HKN.out]; unfold keepS; rw [if_pos h0, if_pos h1])
              clear h0 h1
              go_wp2_with fail
              go_roundw
              case measure => simp [intOf]; omega
              case rel => exact ⟨k + 1, A', n, c, by omega, by go_num, rfl, by omega, Lib.hid (by rw [HE.out]), Lib.hid ⟨by rw [HE.out]; exact HJ.out.1, HJ.out.2⟩⟩
            · have f2 : decide (at_ < last) = false := decide_eq_false h1
              have HE : Hid (keepF (l.take (k + 1)) = (at_ + xl, kept ++ [⟨src, at_, xl⟩])) := Lib.hid (by rw [HKN.out]; unfold keepS; rw [if_pos h0, if_neg h1])
              clear h0 h1
              go_wp2_with fail
              go_quiet (fail)
              have d0' : (wr.drewN nq).cell? ⟨b, off + k * 3, none⟩ = some (.int .i64 src) := d0
              have d1' : (wr.drewN nq).cell? ⟨b, off + k * 3 + 1, none⟩ = some (.int .i64 at_) := d1
              have d2' : (wr.drewN nq).cell? ⟨b, off + k * 3 + 2, none⟩ = some (.int .i64 xl) := d2
              have HJN : Hid (Sc.Own (wr.drewN nq) B2 A' n c kept ∧ Below B2 w2 (wr.drewN nq) ∧ B2 ≤ (wr.drewN nq).heap.size) := Lib.hid ⟨HJ.out.1.drewN nq, belowDrewN HJ.out.2 nq, hszr⟩
              clear d0 d1 d2 hszr
              generalize wr.drewN nq = W9 at *
              have hsz9 := HJN.out.2.2
              go_wp2_with (at_builtin; refine wpList_append_own _ rfl _ _ 26 rfl B2 48 i0 _ 3 24 Try.underlying26 hi hz0 hz1 hz2 rfl (by decide) _ _ _ rfl (HJN.out.1.alloc _).2 ⟨W9.heap.size, 0, none⟩ 1 1 (Sc.cells [⟨src, at_, xl⟩]) rfl rfl (Sc.new_one _ ⟨src, at_, xl⟩ _ rfl) (Sc.cells_one_cell _) (by unfold maxLen; omega) (by omega) (by simp; omega) ?_)
              intro v' w8 hown' hgrow _
              obtain ⟨⟨A8, c8, hv, hown8⟩, hb8, _, hz8, hcl⟩ := Sc.app_step HJN.out.1 HJN.out.2.1 HJN.out.2.2 ((Below.refl _ _).alloc (Nat.le_refl _) _) hown' hgrow
              rw [hv]
              have HN8 : Hid (Sc.Own w8 B2 A8 (n + 1) c8 (keepF (l.take (k + 1))).2) := Lib.hid (by rw [HE.out]; exact hown8)
              have HE1 := Lib.hid HE.out
              have HB8 := Lib.hid hb8
              clear hcl hgrow hown' hv hown8 hb8 hz8 HJ
              go_wp2_with fail
              go_roundw
              case measure => simp [intOf]; omega
              case rel => exact ⟨k + 1, A8, n + 1, c8, by omega, by go_num, rfl, by omega, Lib.hid (by rw [HE1.out]), Lib.hid ⟨HN8.out, HB8.out⟩⟩
          · have f1 : (src == 0) = false := by simpa using h0
            have HE : Hid (keepF (l.take (k + 1)) = (last, kept ++ [⟨src, at_, xl⟩])) := Lib.hid (by rw [HKN.out]; unfold keepS; rw [if_neg h0])
            clear h0
            go_wp2_with (at_builtin; refine wpList_append_own _ rfl _ _ 26 rfl B2 48 i0 _ 3 24 Try.underlying26 hi hz0 hz1 hz2 rfl (by decide) _ _ _ rfl (HJ.out.1.alloc _).2 ⟨wr.heap.size, 0, none⟩ 1 1 (Sc.cells [⟨src, at_, xl⟩]) rfl rfl (Sc.new_one _ ⟨src, at_, xl⟩ _ rfl) (Sc.cells_one_cell _) (by unfold maxLen; omega) (by omega) (by simp; omega) ?_)
            intro v' w8 hown' hgrow _
            obtain ⟨⟨A8, c8, hv, hown8⟩, hb8, _, hz8, hcl⟩ := Sc.app_step HJ.out.1 HJ.out.2 hszr ((Below.refl _ _).alloc (Nat.le_refl _) _) hown' hgrow
            rw [hv]
            have HN8 : Hid (Sc.Own w8 B2 A8 (n + 1) c8 (keepF (l.take (k + 1))).2) := Lib.hid (by rw [HE.out]; exact hown8)
            have HE1 := Lib.hid HE.out
            have HB8 := Lib.hid hb8
            clear hcl hgrow hown' hv hown8 hb8 hz8 HJ
            go_wp2_with fail
            go_roundw
            case measure => simp [intOf]; omega
            case rel => exact ⟨k + 1, A8, n + 1, c8, by omega, by go_num, rfl, by omega, Lib.hid (by rw [HE1.out]), Lib.hid ⟨HN8.out, HB8.out⟩⟩
        · obtain rfl : k = tn := by omega
          clear hlt
          have hK := kept_all HT.out.may.1 k
          rw [List.take_of_length_le (by have := HO2.out.1; omega)] at hK
          have HKK := Lib.hid hK
          have hJ := HJ.out
          rw [List.take_of_length_le (by have := HO2.out.1; omega)] at hJ
          have HJ2 := Lib.hid hJ
          clear hK hJ HJ
          go_wp2_with fail
          go_meet
          exact ⟨A', n, c, (keepF l).2, rfl, by omega, Lib.hid ⟨HJ2.out.1.1, HJ2.out.1.rd, HT.out.sub HKK.out.sub HKK.out.tot, by have := HKK.out.tot; have := HTT.out; omega, fun _ => HKK.out.rise, HJ2.out.2⟩⟩
  case rest =>
    obtain ⟨A2, n2, c2, l2, rfl, hn2, HC⟩ := hcut
    have m0 := Int.emod_nonneg most (show (64 : Int) ≠ 0 by omega)
    have m1 := Int.emod_lt_of_pos most (show (0 : Int) < 64 by omega)
    go_wp2_with fail
    refine (Pick_any most 64 wc (by omega) (by omega) hm.1 hm.2).mono ?_
    rintro e w3 ⟨rfl, rfl⟩
    generalize most % 64 = mm at *
    obtain ⟨μ, hμ⟩ := Int.eq_ofNat_of_zero_le (show 0 ≤ 1 + mm by omega)
    have hwm : IntKind.i64.wrap (1 + mm) = (μ : Int) := by rw [IntWalk.i64_in _ (by omega)]; exact hμ
    go_wp2_with fail
    refine (make_ok A2 n2 c2 l2 size μ wc HC.out.1 HC.out.2.1 HC.out.2.2.1 (by omega) (by omega) (by have := HC.out.2.2.2.1; omega) (by omega)).mono ?_
    rintro e w5 ⟨⟨p, rfl, hp, hm⟩, hb5⟩
    have hms := hm.stash HC.out.2.2.1
    have HMS := Lib.hid hms
    have HPO := Lib.hid hp
    have HL2 := Lib.hid HC.out.1
    have HR5 := Lib.hid (HC.out.2.1.up hb5)
    have HT2 := Lib.hid HC.out.2.2.1
    have HT3 := Lib.hid HC.out.2.2.2.1
    have HRI := Lib.hid HC.out.2.2.2.2.1
    have HB5 := Lib.hid ((HB2.out.trans (HC.out.2.2.2.2.2.mono HB2.out.size)).trans (hb5.mono (by have := HB2.out.size; have := HC.out.2.2.2.2.2.size; omega)))
    clear hms hp hm hb5 HC hμ hwm
    obtain ⟨pn, SA, sc, stash, WA, wq, waves⟩ := p
    simp only [PlV.pln] at HMS
    unfold PlV.cells
    simp only
    have hb6 : Below w5.heap.size w5 (w5.alloc (.cells #[.int .i64 pn, .slice SA stash.length sc, .slice WA waves.length wq] 32)) := (Below.refl _ _).alloc (Nat.le_refl _) _
    have HB6 := Lib.hid (HB5.out.trans (hb6.mono HB5.out.size))
    have HR6 := Lib.hid (HR5.out.up hb6)
    have HS6 := Lib.hid ((HPO.out.st.below hb6 (Nat.le_refl _)).more hb6.size)
    have b1 : (w5.alloc (.cells #[.int .i64 pn, .slice SA stash.length sc, .slice WA waves.length wq] 32)).cell? ⟨w5.heap.size, 1, none⟩ = some (.slice SA stash.length sc) := cell_new w5 _ 32 1
    have hlt6 : w5.heap.size < (w5.alloc (.cells #[.int .i64 pn, .slice SA stash.length sc, .slice WA waves.length wq] 32)).heap.size := by simp
    have hsl : stash.length ≤ 9223372036854775807 := Nat.le_trans HPO.out.scap.1 HPO.out.scap.2
    clear hb6 HPO HR5 HB5
    go_wp2_with fail
    generalize w5.alloc (.cells #[.int .i64 pn, .slice SA stash.length sc, .slice WA waves.length wq] 32) = W6 at *
    go_loopw [15, 17] (fun v i wx => ∃ k : Nat, k ≤ n2 ∧ i = .int .i64 k ∧ v = .int .i64 (mineL (l2.take k)) ∧ wx = W6) (fun _ i _ => n2 - (intOf i).toNat)
    case atStart => exact ⟨0, Nat.zero_le _, rfl, rfl, rfl⟩
    case round =>
      obtain ⟨k, hk, rfl, rfl, rfl⟩ := hrel
      by_cases hlt : k < n2
      · obtain ⟨x, hx⟩ := Sc.get_some l2 k (by have := HL2.out; omega)
        obtain ⟨b, off, rfl, hbb, d0, d1, d2⟩ := HR6.out k x hx
        have hok := HT2.out.may.1 x (List.mem_of_getElem? hx)
        have HMN := Lib.hid (mineL_next hx)
        have h1 := mine_le_tot (l := l2.take k) (HT2.out.may.1.take k)
        have h2 := Sc.tot_take_le l2 HT2.out.may.1 k
        have h3 := HT3.out
        have h4 := Sc.tot_take_succ l2 k x hx
        have h5 := Sc.tot_take_le l2 HT2.out.may.1 (k + 1)
        obtain ⟨src, at_, xl⟩ := x
        unfold Sc.okS at hok
        simp only at d0 d1 d2 hok HMN h4
        have hm0 : 0 ≤ mineL (l2.take k) ∧ mineL (l2.take k) + xl ≤ 120000 := by omega
        clear hx h1 h2 h3 h4 h5
        by_cases h0 : src = 0
        · have f1 : (src == 0) = true := by simpa using h0
          have HE : Hid (mineL (l2.take (k + 1)) = mineL (l2.take k) + xl) := Lib.hid (by rw [HMN.out, if_pos h0])
          clear h0 HMN
          go_wp2_with fail
          go_roundw
          case measure => simp [intOf]; omega
          case rel => exact ⟨k + 1, by omega, by go_num, by rw [HE.out], trivial⟩
        · have f1 : (src == 0) = false := by simpa using h0
          have HE : Hid (mineL (l2.take (k + 1)) = mineL (l2.take k)) := Lib.hid (by rw [HMN.out, if_neg h0]; omega)
          clear h0 HMN
          go_wp2_with fail
          go_roundw
          case measure => simp [intOf]; omega
          case rel => exact ⟨k + 1, by omega, by go_num, by rw [HE.out], trivial⟩
      · obtain rfl : k = n2 := by omega
        clear hlt
        rw [List.take_of_length_le (by have := HL2.out; omega)]
        have hle := HMS.out.le
        have h0r : rise = true → tot stash = 0 := fun h => HMS.out.rise (HRI.out h)
        have HRZ := Lib.hid h0r
        generalize mineL l2 = mine at *
        have HLE := Lib.hid hle
        clear hle h0r
        go_wp2_with fail
        go_loopw [16, 18] (fun v i wx => ∃ (q nn : Nat), q ≤ stash.length ∧ i = .int .i64 q ∧ v = .int .i64 (tot (stash.take q)) ∧ wx = wr.drewN nn) (fun _ i _ => stash.length - (intOf i).toNat)
        case atStart => exact ⟨0, 0, Nat.zero_le _, rfl, rfl, rfl⟩
        case round =>
          obtain ⟨q, nn, hq, rfl, rfl, rfl⟩ := hrel
          have b1' : (wr.drewN nn).cell? ⟨w5.heap.size, 1, none⟩ = some (.slice SA stash.length sc) := b1
          by_cases hlq : q < stash.length
          · obtain ⟨r, hr⟩ := Sc.get_some stash q hlq
            obtain ⟨b, off, rfl, hbb, d0, d1⟩ := HS6.out q r hr
            have d0' : (wr.drewN nn).cell? ⟨b, off + q * 2, none⟩ = some (.int .i64 r.1) := d0
            have d1' : (wr.drewN nn).cell? ⟨b, off + q * 2 + 1, none⟩ = some (.int .i64 r.2) := d1
            have HTN := Lib.hid (tot_take hr)
            have hR : Right stash := HMS.out.right
            have hTo : ∀ r ∈ stash, r.2 ≤ size := HMS.out.upTo
            have t0 := tot_take_le' hR q
            have t1 := right_tot_le (right_take hR (q + 1)) size (by omega) (fun s hs => hTo s (List.mem_of_mem_take hs))
            have t2 := HTN.out
            have t3 := right_mem hR (List.mem_of_getElem? hr)
            have hw := wrap_sub (tot (stash.take q) + r.2) r.1 (by omega)
            have he : tot (stash.take q) + r.2 - r.1 = tot (stash.take (q + 1)) := by omega
            rw [he] at hw
            have HW9 := Lib.hid hw
            have j0 : (0 : Int) ≤ (q : Int) := by omega
            have j1 : (q : Int) < (stash.length : Int) := by omega
            clear hr t0 t1 t2 t3 he hw HTN hR hTo
            go_wp2_with fail
            go_quiet (fail)
            go_wp2_with fail
            go_roundw
            case measure => simp [intOf]; omega
            case rel => exact ⟨q + 1, nn + nq, by omega, by go_num, by congr 1; exact (by have h := HW9.out; rw [IntWalk.i64_left, IntWalk.i64_left] at h; exact h), by simp⟩
          · obtain rfl : q = stash.length := by omega
            clear hlq
            rw [List.take_length]
            have f1 : decide (tot stash ≤ mine) = true := decide_eq_true HLE.out
            have HBE : Hid (Below w.heap.size w (wr.drewN nn)) := Lib.hid (belowDrewN HB6.out nn)
            cases rise with
            | false =>
              go_wp2_with fail
              go_ret
              exact ⟨rfl, HBE.out⟩
            | true =>
              have f2 : (tot stash == 0) = true := by simpa using HRZ.out rfl
              go_wp2_with fail
              go_ret
              exact ⟨rfl, HBE.out⟩
end Go.Proofs.Yteceephenfmdoaa
