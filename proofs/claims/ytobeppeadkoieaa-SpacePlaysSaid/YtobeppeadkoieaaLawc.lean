/-
  That SpacePlays is true, for all numbers and calls.
-/
import Derived.Test.YtobeppeadkoieaaLawb
import Derived.Deep.RegionWith
namespace Go.Proofs.Ytobeppeadkoieaa
open Go.RowKit
theorem New_bad (w : World) (res : Int) (h : res < 0 ∨ 1048576 < res) :
    Calls Try.prog 7 #[.int .i64 res] w fun e w' => e = .returned (.tuple #[.pointer none, .int .i64 1]) ∧ w = w' := by
  by_cases h0 : res < 0
  · go_enter Try.func7, Try.ntmps7
    go_wp2_with fail
    go_ret2
    exact ⟨rfl, rfl⟩
  · have h1 : 1048576 < res := h.resolve_left h0
    go_enter Try.func7, Try.ntmps7
    go_wp2_with fail
    go_ret2
    exact ⟨rfl, rfl⟩
theorem SameR_true (A : Option Addr) (len cap : Nat) (A2 : Option Addr) (len2 cap2 : Nat) (w : World) (l : List Rg.R) (hlen : l.length = len) (hr : Rg.Rd w w.heap.size A l) (hm : len ≤ 9223372036854775807) (hlen2 : l.length = len2) (hr2 : Rg.Rd w w.heap.size A2 l) (hm2 : len2 ≤ 9223372036854775807) :
    Calls Try.prog 16 #[.slice A len cap, .slice A2 len2 cap2] w fun e w' => e = .returned (.bool true) ∧ Below w.heap.size w w' :=
  (Rg.Same_any A len cap A2 len2 cap2 w l l hlen hr hm hlen2 hr2 hm2).mono fun _ _ ⟨h1, h2⟩ => ⟨by rw [h1, decide_eq_true rfl], h2⟩
theorem RfAt.upB {w w' : World} {p : Nat} {res : Int} {U W T : List Int} {Rs : Nat → Prop} {Au : Option Addr} {cu : Nat} {Aw : Option Addr} {cw : Nat} {At : Option Addr} {ct : Nat} (h : RfAt w p res U W T Rs Au cu Aw cw At ct) (hb : Below w.heap.size w w') : RfAt w' p res U W T Rs Au cu Aw cw At ct :=
  h.stays hb.size (fun b hR => hb.block b (h.lt b hR))
theorem rdUp {w w' : World} {A : Option Addr} {l : List Rg.R} (h : Rg.Rd w w.heap.size A l) (hb : Below w.heap.size w w') : Rg.Rd w' w'.heap.size A l := rd_only (X := fun _ => False) h (Only.of_below hb) (fun _ _ => id)
set_option maxHeartbeats 12800000 in
set_option maxRecDepth 100000 in
theorem plays_walk (res : Int) (A1 : Option Addr) (len1 cap1 : Nat) (w : World) (cs : List CallV) (hl : cs.length = len1) (hr : RdC w w.heap.size A1 cs) (a0 : -9223372036854775808 ≤ res) (a1 : res ≤ 9223372036854775807) (_hm : len1 ≤ 9223372036854775807) :
    Calls Try.prog 4 #[.int .i64 res, .slice A1 len1 cap1] w fun e w' => e = .returned (.bool true) ∧ Below w.heap.size w w' := by
  have HLc := Lib.hid hl; have HRc := Lib.hid hr
  clear hl hr
  by_cases hbad : res < 0 ∨ 1048576 < res
  · by_cases h0 : res < 0
    · go_enter Try.func4, Try.ntmps4
      go_wp2_with fail
      refine (New_bad _ res hbad).mono ?_
      rintro e w1 ⟨rfl, rfl⟩
      go_wp2_with fail
      refine (awake_any _).mono ?_
      rintro e w2 ⟨rfl, hb2⟩
      go_wp2_with fail
      go_ret
      exact ⟨rfl, hb2⟩
    · have h1 : 1048576 < res := hbad.resolve_left h0
      go_enter Try.func4, Try.ntmps4
      go_wp2_with fail
      refine (New_bad _ res hbad).mono ?_
      rintro e w1 ⟨rfl, rfl⟩
      go_wp2_with fail
      refine (awake_any _).mono ?_
      rintro e w2 ⟨rfl, hb2⟩
      go_wp2_with fail
      go_ret
      exact ⟨rfl, hb2⟩
  · have r0 : 0 ≤ res := by omega
    have r1 : res ≤ 1048576 := by omega
    clear hbad
    go_enter Try.func4, Try.ntmps4
    go_wp2_with fail
    refine (New_any _ res r0 r1).mono ?_
    rintro e w1 ⟨⟨sb, bu, bw, rfl, hbu, hs1⟩, hb1⟩
    have HS1 := Lib.hid hs1; have HB1 := Lib.hid hb1
    clear hs1 hb1
    go_wp2_with fail
    refine (awake_any _).mono ?_
    rintro e w2 ⟨rfl, hb2⟩
    have HS2 : Hid (Sp w2 sb bu bw res (fun _ => false) (fun _ => false) none 0 [] 0) := Lib.hid (HS1.out.stays hb2.size (fun b hlt _ => hb2.block b hlt))
    have HB2 := Lib.hid (below_up HB1.out hb2)
    have HST := Lib.hid (st_new HS2.out hbu r0 r1)
    have HB3 : Hid (Below w.heap.size w (w2.alloc (.cells #[.int .i64 res, .slice none 0 0, .slice none 0 0, .slice none 0 0] 32))) := Lib.hid (HB2.out.alloc HB2.out.size _)
    clear hb2 HS1 HB1 HS2 HB2
    go_wp2_with fail
    generalize w2.heap.size = p at *
    generalize w2.alloc (.cells #[.int .i64 res, .slice none 0 0, .slice none 0 0, .slice none 0 0] 32) = w3 at *
    go_loopw [8] (fun i wr => ∃ k : Nat, k ≤ len1 ∧ k ≤ 100 ∧ i = .int .i64 k ∧ Hid (St wr w.heap.size sb bu bw p res (40 * k)) ∧ Hid (Below w.heap.size w wr)) (fun i _ => 100 - (intOf i).toNat)
    case atStart => exact ⟨0, Nat.zero_le _, Nat.zero_le _, rfl, HST, HB3⟩
    case round =>
      clear HST HB3
      obtain ⟨k, hk, hk100, rfl, hSt, hB⟩ := hrel
      by_cases h1 : k < len1
      · by_cases h2 : k < 100
        · obtain ⟨x, hx⟩ := get_some cs k (by have := HLc.out; omega)
          obtain ⟨b, off, rfl, hbb, c0, c1, c2, hik, hin, hxl, hxm, hxr, hxi, hxn⟩ := (HRc.out.below hB.out (Nat.le_refl _)) k x hx
          have HXR := Lib.hid hxr; have HXI := Lib.hid hxi; have HXN := Lib.hid hxn; have HXL := Lib.hid hxl; have HIN := Lib.hid hin
          obtain ⟨kind, no, L, xn, cl, l⟩ := x
          simp only at *
          clear hx hbb hik hin hxl hxr hxi hxn
          by_cases h3 : xn ≤ 40
          · have hbd := drew_below wr
            have CD := Lib.hid (does_any (hSt.out.up hbd) (by omega) kind no HIN.out L xn cl l HXL.out h3 (HXR.out.below hbd hB.out.size) HXI.out HXN.out)
            have HBd := Lib.hid (hB.out.trans (hbd.mono hSt.out.base))
            clear hbd
            go_wp2_with fail
            go_region_with (first
              | (go_at_call_of 9 (Value.pointer (some ⟨sb, 0, Option.none⟩)); refine CD.out.mono ?_; rintro e w5 ⟨rfl, hst5, hb5⟩; obtain ⟨u, wt, A, c, tk, U, W, T, N, S, Rs, hm, hp⟩ := hst5; have heq := hp.eq; subst heq; obtain ⟨Au, cu, Aw, cw, At, ct, hra⟩ := hm.rf; have k3 := hra.c3; have HM := Lib.hid hm; have HP := Lib.hid hp; have HR := Lib.hid hra; have HBn := Lib.hid (HBd.out.trans hb5); have hlu := hp.lu; have hlw := hp.lw; have hln := hp.ln; clear hm hp hra hb5)
              | (go_at_call_of 12 (Value.pointer (some ⟨sb, 0, Option.none⟩)); refine (Mark_any _ sb bu bw res u wt A c T N HM.out.sp).mono ?_; rintro e w6 ⟨rfl, rfl⟩)
              | (go_at_call_of 17 (Value.pointer (some ⟨sb, 0, Option.none⟩)); refine (Top_any HM.out.sp U W HP.out.uu HP.out.ww HP.out.b0 HP.out.w0 r0 r1).mono ?_; rintro e w7 ⟨rfl, hbx⟩; have HBn := Lib.hid (HBn.out.trans (hbx.mono HM.out.base)); have HR := Lib.hid (HR.out.upB hbx); have HM := Lib.hid (HM.out.up hbx))
              | (go_at_call_of 18 (Value.pointer (some ⟨p, 0, Option.none⟩)); refine (HM.out.rf.top r0 r1 HP.out.b0 HP.out.w0 (by omega) (by omega)).mono ?_; rintro e w8 ⟨rfl, rfl⟩))
            all_goals
              have HR := Lib.hid (HR.out.upB (drew_below _))
              have HBn := Lib.hid (HBn.out.trans ((drew_below _).mono HM.out.base))
              have HM := Lib.hid (HM.out.up (drew_below _))
              have k1 := HR.out.c1
              have k2 := HR.out.c2
              go_wp2_with fail
              go_region_with (first
                | (go_at_call_of 10 (Value.pointer (some ⟨sb, 0, Option.none⟩)); refine (Used_any HM.out.sp U HP.out.uu HP.out.b0 (by omega)).mono ?_; rintro e wa ⟨⟨X1, m1, e1, rfl, o1⟩, hbx⟩; (try have RL := Lib.hid (rdUp RL.out hbx)); have HBn := Lib.hid (HBn.out.trans (hbx.mono HM.out.base)); have HR := Lib.hid (HR.out.upB hbx); have HM := Lib.hid (HM.out.up hbx); have k1 := HR.out.c1; have k2 := HR.out.c2; have RU := Lib.hid o1.rd; have KU := Lib.hid o1.1; have cU := o1.cap; unfold maxLen at cU; clear o1 hbx)
                | (go_at_call_of 19 (Value.slice Au U.length cu); refine (Listed_any Au U.length cu _ U rfl HR.out.ru (by omega) HP.out.b0).mono ?_; rintro e wb ⟨⟨X2, m2, e2, rfl, o2⟩, hbx⟩; (try have RU := Lib.hid (rdUp RU.out hbx)); have HBn := Lib.hid (HBn.out.trans (hbx.mono HM.out.base)); have HR := Lib.hid (HR.out.upB hbx); have HM := Lib.hid (HM.out.up hbx); have k1 := HR.out.c1; have k2 := HR.out.c2; have RL := Lib.hid o2.rd; have KL := Lib.hid o2.1; have cL := o2.cap; unfold maxLen at cL; clear o2 hbx)
                | (go_at_call_of 11 (Value.pointer (some ⟨sb, 0, Option.none⟩)); refine (Waiting_any HM.out.sp W HP.out.ww HP.out.w0 (by omega)).mono ?_; rintro e wc ⟨⟨X3, m3, e3, rfl, o3⟩, hbx⟩; (try have RX := Lib.hid (rdUp RX.out hbx)); have HBn := Lib.hid (HBn.out.trans (hbx.mono HM.out.base)); have HR := Lib.hid (HR.out.upB hbx); have HM := Lib.hid (HM.out.up hbx); have k1 := HR.out.c1; have k2 := HR.out.c2; have RW := Lib.hid o3.rd; have KW := Lib.hid o3.1; have cW := o3.cap; unfold maxLen at cW; clear o3 hbx)
                | (go_at_call_of 19 (Value.slice Aw W.length cw); refine (Listed_any Aw W.length cw _ W rfl HR.out.rw_ (by omega) HP.out.w0).mono ?_; rintro e wd ⟨⟨X4, m4, e4, rfl, o4⟩, hbx⟩; (try have RW := Lib.hid (rdUp RW.out hbx)); have HBn := Lib.hid (HBn.out.trans (hbx.mono HM.out.base)); have HR := Lib.hid (HR.out.upB hbx); have HM := Lib.hid (HM.out.up hbx); have k1 := HR.out.c1; have k2 := HR.out.c2; have RX := Lib.hid o4.rd; have KX := Lib.hid o4.1; have cX := o4.cap; unfold maxLen at cX; clear o4 hbx)
                | (go_at_call_of 16 (Value.slice X3 m3 e3); refine (SameR_true X3 m3 e3 X4 m4 e4 _ (Rg.nl (W.map unit1)) KW.out RW.out (by omega) KX.out RX.out (by omega)).mono ?_; rintro e we ⟨rfl, hbx⟩; have HBn := Lib.hid (HBn.out.trans (hbx.mono HM.out.base)); have HR := Lib.hid (HR.out.upB hbx); have HM := Lib.hid (HM.out.up hbx); have k1 := HR.out.c1; have k2 := HR.out.c2; clear hbx)
                | (go_at_call_of 16 (Value.slice X1 m1 e1); refine (SameR_true X1 m1 e1 X2 m2 e2 _ (Rg.nl (U.map unit1)) KU.out RU.out (by omega) KL.out RL.out (by omega)).mono ?_; rintro e we ⟨rfl, hbx⟩; have HBn := Lib.hid (HBn.out.trans (hbx.mono HM.out.base)); have HR := Lib.hid (HR.out.upB hbx); have HM := Lib.hid (HM.out.up hbx); have k1 := HR.out.c1; have k2 := HR.out.c2; clear hbx))
              all_goals
                have hst9 := Lib.hid (show St _ w.heap.size sb bu bw p res (40 * (k+1)) from ⟨_, _, _, _, _, _, _, _, _, _, _, HM.out, HP.out.more (by omega)⟩)
                clear k1 k2
                go_wp2_with fail
                go_roundw
                case rel => exact ⟨k+1, by omega, by omega, by go_num, hst9, HBn⟩
                case measure => simp [intOf]; omega
          · go_wp2_with fail
            go_ret
            exact ⟨rfl, hB.out⟩
        · obtain rfl : k = 100 := by omega
          clear h2
          go_wp2_with fail
          go_ret
          exact ⟨rfl, hB.out⟩
      · obtain rfl : k = len1 := by omega
        clear h1
        go_wp2_with fail
        go_ret
        exact ⟨rfl, hB.out⟩
end Go.Proofs.Ytobeppeadkoieaa
