/-
  MovesRefuses' law: what it answers of any list, size and number.
-/
import Derived.Test.YteceephenfmdoaaNAwake
import Derived.Test.YteceephenfmdoaaKWbad
import Derived.Test.YteceephenfmdoaaMSame
import Derived.Test.YteceephenfmdoaaSD
namespace Go.Proofs.Yteceephenfmdoaa
open Go.RowKit
def zeroP : PlV := ⟨0, none, 0, [], none, 0, []⟩
theorem zero_ok (w : World) (B : Nat) : PlOk w B zeroP := by
  refine ⟨Rd.nil _ _ _, ⟨Nat.zero_le _, by show 0 ≤ _; omega⟩, fun _ => ⟨rfl, rfl⟩, ?_, ?_, ⟨Nat.zero_le _, by show 0 ≤ _; omega⟩, fun _ => ⟨rfl, rfl⟩, by show I64 0; unfold I64; omega⟩
  · intro r hr; cases hr
  · intro k v h
    have h' : ([] : List WvV)[k]? = some v := h
    simp at h'
theorem same_zero (w : World) : Calls Try.prog 16 #[.agg #[.int .i64 0, .slice none 0 0, .slice none 0 0], .agg #[.int .i64 0, .slice none 0 0, .slice none 0 0]] w fun e w' => e = .returned (.bool true) ∧ Below w.heap.size w w' :=
  Same_plans zeroP zeroP w (zero_ok _ _) (zero_ok _ _) rfl
set_option maxRecDepth 100000 in
set_option maxHeartbeats 4000000 in
theorem refuses_walk (A : Option Addr) (len cap : Nat) (size most : Int) (w : World) (l : List S) (hlen : l.length = len) (hr : Sc.Rd w w.heap.size A l) (hl9 : len ≤ 9223372036854775807) (hI : ∀ x ∈ l, I64 x.src ∧ I64 x.at_ ∧ I64 x.len) (hs : I64 size) (hm : I64 most) :
    Calls Try.prog 4 #[.slice A len cap, .int .i64 size, .int .i64 most] w fun e w' => e = .returned (.bool true) ∧ Below w.heap.size w w' := by
  have HL := Lib.hid hlen; have HR := Lib.hid hr; have HI := Lib.hid hI
  clear hlen hr hI
  have hs' := hs; have hm' := hm
  have HSM := Lib.hid (And.intro hs hm)
  unfold I64 at hs' hm'
  clear hs hm
  by_cases h20 : 20 < len
  · have f0 : decide ((20 : Int) < (len : Int)) = true := decide_eq_true (by omega)
    clear h20
    go_enter Try.func4, Try.ntmps4
    go_wp2_with fail
    refine (awake_any w).mono ?_
    rintro e w1 ⟨rfl, hb1⟩
    have HB1 := Lib.hid hb1
    clear hb1
    go_wp2_with fail
    refine (awake_any w1).mono ?_
    rintro e w2 ⟨rfl, hb2⟩
    have HB2 := Lib.hid (HB1.out.trans (hb2.mono HB1.out.size))
    clear hb2
    go_wp2_with fail
    go_ret
    exact ⟨rfl, HB2.out⟩
  have f0 : decide ((20 : Int) < (len : Int)) = false := decide_eq_false (by omega)
  by_cases hM : Sc.MayP l
  · have HMB := Lib.hid (Sc.mayB_of hM)
    have HM := Lib.hid hM
    clear h20 hM
    by_cases hg : size < 0 ∨ 1048576 < size ∨ most < 1 ∨ 64 < most
    · have HV : Hid (makeE l size most = 1) := Lib.hid (if_pos (.inr hg))
      rcases hg with h1 | h1 | h1 | h1
      all_goals
        go_enter Try.func4, Try.ntmps4
        go_wp2_with fail
        refine (awake_any w).mono ?_
        rintro e w1 ⟨rfl, hb1⟩
        have HB1 := Lib.hid hb1
        have HR1 := Lib.hid (HR.out.up hb1)
        clear hb1
        go_wp2_with fail
        refine (Sc.refMay_any A len cap w1 l HL.out HR1.out hl9).mono ?_
        rw [HMB.out]
        rintro e w2 ⟨rfl, hb2⟩
        have HB2 := Lib.hid (HB1.out.trans (hb2.mono HB1.out.size))
        have HR2 := Lib.hid (HR1.out.up hb2)
        clear hb2 HB1 HR1 HMB
        go_wp2_with fail
      all_goals
        go_loopw [7, 8] (fun v i wx => v = .int .i64 1 ∧ i = .int .i64 0 ∧ wx = w2) (fun _ _ _ => 0)
        case atStart => exact ⟨rfl, rfl, rfl⟩
        case round =>
          obtain ⟨rfl, rfl, rfl⟩ := hrel
          go_wp2_with fail
          all_goals
            refine (make_bad A _ cap l size most _ HL.out (by first | exact HR2.out | exact HR2.out.up (by assumption)) hl9 HSM.out.1 HSM.out.2 (by rw [HV.out]; decide)).mono ?_
            rintro e w3 ⟨rfl, hb3⟩
            rw [HV.out]
            have HB3 := Lib.hid (HB2.out.trans (hb3.mono HB2.out.size))
            clear hb3
            go_wp2_with fail
            refine (same_zero _).mono ?_
            rintro e w4 ⟨rfl, hb4⟩
            have HB4 : Hid (Below w.heap.size w w4) := Lib.hid ((HB3.out.alloc HB3.out.size _).trans (hb4.mono (by have := HB3.out.size; simp; omega)))
            clear hb4
            go_wp2_with fail
            go_ret
            exact ⟨rfl, HB4.out⟩
    · have m1 : 0 ≤ size ∧ size ≤ 1048576 := by omega
      have m2 : 1 ≤ most ∧ most ≤ 64 := by omega
      have HME : Hid (((∃ s ∈ l, badS size s) → makeE l size most = 1) ∧ ((¬ ∃ s ∈ l, badS size s) → 1048576 < Sc.tot l → makeE l size most = 10)) := Lib.hid (by
        have h0 : ¬ (¬ Sc.MayP l ∨ size < 0 ∨ 1048576 < size ∨ most < 1 ∨ 64 < most) := by rintro (h | h); exact h HM.out; exact hg h
        refine ⟨fun h => ?_, fun h h2 => ?_⟩ <;> unfold makeE <;> rw [if_neg h0]
        · rw [if_pos h]
        · rw [if_neg h, if_pos h2])
      clear hg hs' hm'
      go_enter Try.func4, Try.ntmps4
      go_wp2_with fail
      refine (awake_any w).mono ?_
      rintro e w1 ⟨rfl, hb1⟩
      have HB1 := Lib.hid hb1
      have HR1 := Lib.hid (HR.out.up hb1)
      clear hb1
      go_wp2_with fail
      refine (Sc.refMay_any A len cap w1 l HL.out HR1.out hl9).mono ?_
      rw [HMB.out]
      rintro e w2 ⟨rfl, hb2⟩
      have HB2 := Lib.hid (HB1.out.trans (hb2.mono HB1.out.size))
      have HR2 := Lib.hid (HR1.out.up hb2)
      clear hb2 HB1 HR1 HMB
      go_wp2_with fail
      generalize hB2 : w2.heap.size = B2 at *
      have HEB := Lib.hid hB2
      clear hB2
      go_loopw [7, 8] (fun v i wx => ∃ (k : Nat) (wnt : Int), k ≤ len ∧ i = .int .i64 k ∧ v = .int .i64 wnt ∧ Hid ((wnt = 1 ∧ makeE l size most = 1) ∨ (wnt = 0 ∧ ∀ s ∈ l.take k, ¬ badS size s)) ∧ Hid (Below B2 w2 wx)) (fun v i _ => len - (intOf i).toNat)
      case atStart => exact ⟨0, 0, Nat.zero_le _, rfl, rfl, Lib.hid (.inr ⟨rfl, fun s hs => by simp at hs⟩), Lib.hid (Below.refl _ _)⟩
      case round =>
        obtain ⟨k, wnt, hk, rfl, rfl, HS, HBR⟩ := hrel
        have hszr : B2 ≤ wr.heap.size := by have := HBR.out.size; have := HEB.out; omega
        have HRW := Lib.hid ((HR2.out.below HBR.out (Nat.le_refl _)).more hszr)
        have HBW : Hid (Below w.heap.size w wr) := Lib.hid (HB2.out.trans (HBR.out.mono (by have := HB2.out.size; have := HEB.out; omega)))
        rcases HS.out with ⟨rfl, hv⟩ | ⟨rfl, hgood⟩
        · have HV := Lib.hid hv
          have HR2 := HRW
          have HB2 := HBW
          clear hv HS
          go_wp2_with fail
          all_goals
            refine (make_bad A _ cap l size most _ HL.out (by first | exact HR2.out | exact HR2.out.up (by assumption)) hl9 HSM.out.1 HSM.out.2 (by rw [HV.out]; decide)).mono ?_
            rintro e w3 ⟨rfl, hb3⟩
            rw [HV.out]
            have HB3 := Lib.hid (HB2.out.trans (hb3.mono HB2.out.size))
            clear hb3
            go_wp2_with fail
            refine (same_zero _).mono ?_
            rintro e w4 ⟨rfl, hb4⟩
            have HB4 : Hid (Below w.heap.size w w4) := Lib.hid ((HB3.out.alloc HB3.out.size _).trans (hb4.mono (by have := HB3.out.size; simp; omega)))
            clear hb4
            go_wp2_with fail
            go_ret
            exact ⟨rfl, HB4.out⟩
        · by_cases hlt : k < len
          · obtain ⟨x, hx⟩ := Sc.get_some l k (by have := HL.out; omega)
            obtain ⟨b, off, rfl, hbb, d0, d1, d2⟩ := HRW.out k x hx
            have hin := List.mem_of_getElem? hx
            have hok := HM.out.1 x hin
            have HGD : Hid (¬ badS size x → ∀ s ∈ l.take (k + 1), ¬ badS size s) := Lib.hid (fun h s hs => by
              rw [Sc.take_snoc l k x hx] at hs
              rcases List.mem_append.1 hs with hs | hs
              · exact hgood s hs
              · simp at hs; subst hs; exact h)
            have HBD : Hid (badS size x → makeE l size most = 1) := Lib.hid (fun h => HME.out.1 ⟨x, hin, h⟩)
            obtain ⟨src, at_, xl⟩ := x
            unfold Sc.okS at hok
            simp only at d0 d1 d2 hok
            have hwr : IntKind.i64.wrap (size - at_) = size - at_ := IntWalk.i64_in _ (by omega)
            have j0 : (0 : Int) ≤ (k : Int) := by omega
            have j1 : (k : Int) < (len : Int) := by omega
            clear hx hin hgood HS
            by_cases h2 : src = 2
            · have HV := Lib.hid (HBD.out (.inl h2))
              have f2 : (src == 2) = true := by simpa using h2
              clear h2
              go_wp2_with fail
              go_quiet (fail)
              go_wp2_with fail
              go_roundw
              case measure => simp [intOf]; omega
              case rel => exact ⟨k + 1, 1, by omega, by go_num, rfl, Lib.hid (.inl ⟨rfl, HV.out⟩), Lib.hid (belowDrewN HBR.out _)⟩
            · have f2 : (src == 2) = false := by simpa using h2
              by_cases h0 : src = 0
              · have f0' : (src == 0) = true := by simpa using h0
                by_cases h3 : size < at_
                · have HV := Lib.hid (HBD.out (.inr ⟨h0, by simp only; omega⟩))
                  have f3 : decide (size < at_) = true := decide_eq_true h3
                  clear h2 h0 h3
                  go_wp2_with fail
                  go_quiet (fail)
                  go_wp2_with fail
                  go_roundw
                  case measure => simp [intOf]; omega
                  case rel => exact ⟨k + 1, 1, by omega, by go_num, rfl, Lib.hid (.inl ⟨rfl, HV.out⟩), Lib.hid (belowDrewN HBR.out _)⟩
                · have f3 : decide (size < at_) = false := decide_eq_false h3
                  by_cases h4 : size - at_ < xl
                  · have HV := Lib.hid (HBD.out (.inr ⟨h0, by simp only; omega⟩))
                    have f4 : decide (size - at_ < xl) = true := decide_eq_true h4
                    clear h2 h0 h3 h4
                    go_wp2_with fail
                    go_quiet (fail)
                    go_wp2_with fail
                    go_roundw
                    case measure => simp [intOf]; omega
                    case rel => exact ⟨k + 1, 1, by omega, by go_num, rfl, Lib.hid (.inl ⟨rfl, HV.out⟩), Lib.hid (belowDrewN HBR.out _)⟩
                  · have HG2 := Lib.hid (HGD.out (by unfold badS; simp only; omega))
                    have f4 : decide (size - at_ < xl) = false := decide_eq_false h4
                    clear h2 h0 h3 h4
                    go_wp2_with fail
                    go_quiet (fail)
                    go_wp2_with fail
                    go_roundw
                    case measure => simp [intOf]; omega
                    case rel => exact ⟨k + 1, 0, by omega, by go_num, rfl, Lib.hid (.inr ⟨rfl, HG2.out⟩), Lib.hid (belowDrewN HBR.out _)⟩
              · have f0' : (src == 0) = false := by simpa using h0
                have HG2 := Lib.hid (HGD.out (by unfold badS; simp only; omega))
                clear h2 h0
                go_wp2_with fail
                go_quiet (fail)
                go_wp2_with fail
                go_roundw
                case measure => simp [intOf]; omega
                case rel => exact ⟨k + 1, 0, by omega, by go_num, rfl, Lib.hid (.inr ⟨rfl, HG2.out⟩), Lib.hid (belowDrewN HBR.out _)⟩
          · obtain rfl : k = len := by omega
            clear hlt
            have HT : Hid (TargetP l size) := Lib.hid ⟨HM.out, fun s hs => by
              have h := hgood s (by rw [List.take_of_length_le (by have := HL.out; omega)]; exact hs)
              unfold badS at h
              omega⟩
            have HNB : Hid (¬ ∃ s ∈ l, badS size s) := Lib.hid (by
              rintro ⟨s, hs, hb⟩
              exact hgood s (by rw [List.take_of_length_le (by have := HL.out; omega)]; exact hs) hb)
            have ht0 := Sc.tot_nonneg l HM.out.1
            have HN := Lib.hid (rfl : Sc.tot l = Sc.tot l)
            generalize hn : Sc.tot l = n at *
            have HN2 := Lib.hid hn
            clear hn hgood HS HN
            have htm : n ≤ 1099511627776 := by have := HM.out.2; have := HN2.out; omega
            by_cases hbig : 1048576 < n
            · have HV : Hid (makeE l size most = 10) := Lib.hid (HME.out.2 HNB.out hbig)
              clear htm
              go_wp2_with fail
              refine (Sc.refSize_any A k cap wr l HL.out HRW.out HM.out.1 HM.out.2).mono ?_
              rw [HN2.out]
              rintro e w5 ⟨rfl, hb5⟩
              have HR2 := Lib.hid (HRW.out.up hb5)
              have HB2 := Lib.hid (HBW.out.trans (hb5.mono HBW.out.size))
              clear hb5
              go_wp2_with fail
              refine (make_bad A _ cap l size most _ HL.out (by first | exact HR2.out | exact HR2.out.up (by assumption)) hl9 HSM.out.1 HSM.out.2 (by rw [HV.out]; decide)).mono ?_
              rintro e w3 ⟨rfl, hb3⟩
              rw [HV.out]
              have HB3 := Lib.hid (HB2.out.trans (hb3.mono HB2.out.size))
              clear hb3
              go_wp2_with fail
              refine (same_zero _).mono ?_
              rintro e w4 ⟨rfl, hb4⟩
              have HB4 : Hid (Below w.heap.size w w4) := Lib.hid ((HB3.out.alloc HB3.out.size _).trans (hb4.mono (by have := HB3.out.size; simp; omega)))
              clear hb4
              go_wp2_with fail
              go_ret
              exact ⟨rfl, HB4.out⟩
            · have hnb : n ≤ 1048576 := by omega
              clear hbig htm
              go_wp2_with fail
              refine (Sc.refSize_any A k cap wr l HL.out HRW.out HM.out.1 HM.out.2).mono ?_
              rw [HN2.out]
              rintro e w5 ⟨rfl, hb5⟩
              have HR5 := Lib.hid (HRW.out.up hb5)
              have HB5 := Lib.hid (HBW.out.trans (hb5.mono HBW.out.size))
              clear hb5
              go_wp2_with fail
              refine (Sc.refSize_any A k cap w5 l HL.out HR5.out HM.out.1 HM.out.2).mono ?_
              rw [HN2.out]
              rintro e w6 ⟨rfl, hb6⟩
              have HR6 := Lib.hid (HR5.out.up hb6)
              have HB6 := Lib.hid (HB5.out.trans (hb6.mono HB5.out.size))
              clear hb6
              by_cases h2 : 20000 < n
              · go_wp2_with fail
                go_ret
                exact ⟨rfl, HB6.out⟩
              · have hn2 : n ≤ 20000 := by omega
                clear h2
                obtain ⟨m, rfl⟩ := Int.eq_ofNat_of_zero_le (show 0 ≤ most by omega)
                go_wp2_with fail
                refine (make_ok A k cap l size m w6 HL.out HR6.out HT.out m1 (by omega) (by rw [HN2.out]; omega) (by rw [HN2.out]; omega)).mono ?_
                rintro e w7 ⟨⟨p, rfl, _, _⟩, hb7⟩
                have HB7 := Lib.hid (HB6.out.trans (hb7.mono HB6.out.size))
                clear hb7
                obtain ⟨pn, SA, sc, stash, WA, wq, waves⟩ := p
                unfold PlV.cells
                go_wp2_with fail
                go_ret
                exact ⟨rfl, HB7.out.alloc HB7.out.size _⟩
  · have HV : Hid (makeE l size most = 1) := Lib.hid (if_pos (.inl hM))
    have HMB := Lib.hid (Sc.mayB_not hM)
    clear h20 hM
    go_enter Try.func4, Try.ntmps4
    go_wp2_with fail
    refine (awake_any w).mono ?_
    rintro e w1 ⟨rfl, hb1⟩
    have HB1 := Lib.hid hb1
    have HR1 := Lib.hid (HR.out.up hb1)
    clear hb1
    go_wp2_with fail
    refine (Sc.refMay_any A len cap w1 l HL.out HR1.out hl9).mono ?_
    rw [HMB.out]
    rintro e w2 ⟨rfl, hb2⟩
    have HB2 := Lib.hid (HB1.out.trans (hb2.mono HB1.out.size))
    have HR2 := Lib.hid (HR1.out.up hb2)
    clear hb2 HB1 HR1 HMB
    go_wp2_with fail
    go_loopw [7, 8] (fun v i wx => v = .int .i64 1 ∧ i = .int .i64 0 ∧ wx = w2) (fun _ _ _ => 0)
    case atStart => exact ⟨rfl, rfl, rfl⟩
    case round =>
      obtain ⟨rfl, rfl, rfl⟩ := hrel
      go_wp2_with fail
      all_goals
        refine (make_bad A _ cap l size most _ HL.out (by first | exact HR2.out | exact HR2.out.up (by assumption)) hl9 HSM.out.1 HSM.out.2 (by rw [HV.out]; decide)).mono ?_
        rintro e w3 ⟨rfl, hb3⟩
        rw [HV.out]
        have HB3 := Lib.hid (HB2.out.trans (hb3.mono HB2.out.size))
        clear hb3
        go_wp2_with fail
        refine (same_zero _).mono ?_
        rintro e w4 ⟨rfl, hb4⟩
        have HB4 : Hid (Below w.heap.size w w4) := Lib.hid ((HB3.out.alloc HB3.out.size _).trans (hb4.mono (by have := HB3.out.size; simp; omega)))
        clear hb4
        go_wp2_with fail
        go_ret
        exact ⟨rfl, HB4.out⟩
end Go.Proofs.Yteceephenfmdoaa
