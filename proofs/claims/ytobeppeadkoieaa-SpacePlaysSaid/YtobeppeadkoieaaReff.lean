/-
  What the reference's Back answers and leaves.
-/
import Derived.Test.YtobeppeadkoieaaRefd
import Derived.Test.YtobeppeadkoieaaBacks
namespace Go.Proofs.Ytobeppeadkoieaa
open Go.RowKit
section
variable {w : World} {p : Nat} {res : Int} {U W T : List Int} {Rs : Nat → Prop}
theorem Rf.back_bad (h : Rf w p res U W T Rs) (mark : Int) (hm : mark < 0 ∨ (T.length : Int) < mark) :
    Calls Try.prog 27 #[.pointer (some ⟨p, 0, none⟩), .int .i64 mark] w fun e w' => e = .returned (.tuple #[.slice none 0 0, .int .i64 1]) ∧ w = w' := by
  obtain ⟨Au, cu, Aw, cw, At, ct, h⟩ := h
  have c3 := h.c3
  clear h
  by_cases h0 : mark < 0
  · go_enter Try.func27, Try.ntmps27
    go_wp2_with fail
    go_ret2
    exact ⟨rfl, rfl⟩
  · have h1 : (T.length : Int) < mark := hm.resolve_left h0
    go_enter Try.func27, Try.ntmps27
    go_wp2_with fail
    go_ret2
    exact ⟨rfl, rfl⟩
theorem rfold_take (xs : List Int) (k : Nat) (x : Int) (s : List Int × List Int) (h : xs[k]? = some x) : (xs.take (k+1)).foldl rstep s = rstep ((xs.take k).foldl rstep s) x := by
  rw [take_snoc xs k x h, List.foldl_append]; rfl
set_option maxHeartbeats 1600000 in
set_option maxRecDepth 100000 in
theorem Rf.back_ok (h : Rf w p res U W T Rs) (m : Nat) (hm : m ≤ T.length) (hU : U.length ≤ 1000000) (hT : T.length ≤ 1000000) :
    Calls Try.prog 27 #[.pointer (some ⟨p, 0, none⟩), .int .i64 m] w fun e w' => ∃ U' out, (U', out) = (T.drop m).foldl rstep (U, []) ∧ ∃ Ao no co, e = .returned (.tuple #[.slice Ao no co, .int .i64 0]) ∧ out.length = no ∧
      Rf w' p res U' W (T.take m) (Sx Rs w w') ∧ RdI w' w'.heap.size Ao out ∧ Only w w' Rs := by
  obtain ⟨Au, cu, Aw, cw, At, ct, h⟩ := h
  have c3 := h.c3
  have H0 := Lib.hid h
  have hp := h.lt p h.inp
  have d1 : decide ((m : Int) < 0) = false := decide_eq_false (by omega)
  have d2 : decide ((T.length : Int) < (m : Int)) = false := decide_eq_false (by omega)
  have d3 : decide (T.length < m) = false := decide_eq_false (by omega)
  clear h
  go_enter Try.func27, Try.ntmps27
  go_wp2_with fail
  go_loopw [6, 7] (fun v i wr => ∃ (k n : Nat) (A' : Option Addr) (c' : Nat) (U' out : List Int), m + k ≤ T.length ∧ i = .int .i64 ((m + k : Nat) : Int) ∧ v = .slice A' n c' ∧ out.length = n ∧ Hid ((U', out) = ((T.drop m).take k).foldl rstep (U, [])) ∧ Hid (RdI wr wr.heap.size A' out ∧ ∀ b, inA A' b → w.heap.size ≤ b) ∧ Hid (Rf wr p res U' W T (Sx Rs w wr)) ∧ Hid (Only w wr Rs)) (fun _ i _ => T.length - (intOf i).toNat)
  case atStart => exact ⟨0, 0, none, 0, U, [], by omega, by simp, rfl, rfl, Lib.hid rfl, Lib.hid ⟨RdI.nil _ _ _, fun b hb => absurd hb inA_none⟩, Lib.hid ⟨_, _, _, _, _, _, H0.out.more (fun _ => .inl) (Sx.lt H0.out.lt (Nat.le_refl _))⟩, Lib.hid (Only.refl _ _)⟩
  case round =>
    obtain ⟨k, n, A', c', U', out, hk, rfl, rfl, hon, hf, hout, hRf, hO⟩ := hrel
    have hsz : w.heap.size ≤ wr.heap.size := hO.out.size
    obtain ⟨hlu, hlo⟩ : U'.length ≤ 1000000 ∧ out.length ≤ 1000000 := by
      have h1 := rfold_len ((T.drop m).take k) (U, [])
      rw [← hf.out] at h1
      simp only [List.length_nil, List.length_take, List.length_drop] at h1
      omega
    obtain ⟨Bu, ku, Bw, kw, Bt, kt, hA⟩ := hRf.out
    have HA := Lib.hid hA
    have k1 := hA.c1
    have k3 := hA.c3
    have z1 := hA.f1
    have hp2 := hA.lt p hA.inp
    by_cases hlt : m + k < T.length
    · obtain ⟨x, hx⟩ := get_some (T.drop m) k (by rw [List.length_drop]; omega)
      have HF := Lib.hid (rfold_take (T.drop m) k x (U, []) hx)
      rw [List.getElem?_drop] at hx
      obtain ⟨bt, ot, rfl, hbt, d0⟩ := hA.rt (m + k) x hx
      have CH : Hid (∀ n, Calls Try.prog 31 #[.slice Bu U'.length ku, .int .i64 x] (wr.drewN n) fun e w' => e = .returned (.bool (decide (x ∈ U'))) ∧ ∃ k, w' = wr.drewN k) := Lib.hid (fun n => (has_any Bu U'.length ku x _ U' rfl (HA.out.ru.up (belowDrewN (Below.refl _ _) n)) hlu).mono fun _ _ h => ⟨h.1, n, h.2.symm⟩)
      have i1 : ((m + k : Nat) : Int) < (T.length : Int) := by omega
      clear hx hA
      by_cases hxu : x ∈ U'
      · have HF2 : Hid ((outL U' x, withL out x) = ((T.drop m).take (k+1)).foldl rstep (U, [])) := Lib.hid (by rw [HF.out, ← hf.out, rstep, if_pos (by simpa using hxu)])
        have HX := decide_eq_true hxu
        rw [HX] at CH
        clear hxu
        go_wp2_with fail
        go_quiet (exact CH.out _)
        have b1 : Below wr.heap.size wr (wr.drewN nq) := belowDrewN (Below.refl _ _) nq
        have h1 : RfAt (wr.drewN nq) p res U' W T (Sx Rs w wr) Bu ku Bw kw (some ⟨bt, ot, none⟩) kt := HA.out.stays (Nat.le_refl _) (fun _ _ => rfl)
        have j1 := h1.c1
        have j3 := h1.c3
        have y1 := h1.f1
        have d0' : (wr.drewN nq).cell? ⟨bt, ot + (m + k), none⟩ = some (.int .i64 x) := d0
        have hp3 : p < (wr.drewN nq).heap.size := hp2
        have hbt3 : bt < (wr.drewN nq).heap.size := hbt
        have hout1 : Hid (RdI (wr.drewN nq) (wr.drewN nq).heap.size A' out ∧ ∀ b, inA A' b → w.heap.size ≤ b) := hout
        have hO1 : Hid (Only w (wr.drewN nq) Rs) := Lib.hid ⟨hO.out.os, hO.out.tape, hO.out.output, hO.out.size, hO.out.rest⟩
        have H1 := Lib.hid h1
        have hsz1 : w.heap.size ≤ (wr.drewN nq).heap.size := hsz
        have hsx : Hid (∀ b, Sx Rs w wr b → Sx Rs w (wr.drewN nq) b) := Lib.hid (fun b hb => hb)
        have hrt := Lib.hid h1.rt
        clear h1 b1 k1 k3 z1 d0 hp2 hbt hout hO HA hRf CH hsz
        generalize wr.drewN nq = wd at *
        have CW := Lib.hid (without_any Bu U'.length ku x wd.drew U' rfl (H1.out.ru.up (drew_below wd)) hlu)
        go_wp2_with fail
        go_region_with (refine CW.out.mono ?_; rintro e w5 ⟨⟨A5, n5, c5, rfl, o5⟩, b5⟩; have k5 := (b5.cell (p := ⟨p, 1, none⟩) hp3).trans j1; have z5 := (b5.frozen (p := ⟨p, 1, none⟩) hp3).trans y1)
        all_goals
          obtain rfl : (outL U' x).length = n5 := o5.1
          have b5' : Below wd.heap.size wd w5 := ⟨b5.os, b5.tape, b5.output, b5.size, b5.block⟩
          have h5 := (H1.out.up b5').setU (c' := c5) o5.rd (H1.out.own_new (w := w5) o5)
          have O5 : Only w (w5.setCell ⟨p, 1, none⟩ (.slice A5 (outL U' x).length c5)) Rs := hO1.out.trans ((Only.of_below b5').trans (Only.of_set _ ⟨p, 1, none⟩ _ (.inl (.inl H0.out.inp))))
          have hs5 := b5'.size
          have hrf : Rf (w5.setCell ⟨p, 1, none⟩ (.slice A5 (outL U' x).length c5)) p res (outL U' x) W T (Sx Rs w (w5.setCell ⟨p, 1, none⟩ (.slice A5 (outL U' x).length c5))) := by
            refine ⟨_, _, _, _, _, _, h5.more (fun b hb => ?_) (Sx.lt H0.out.lt O5.size)⟩
            rcases hb with hb | hb
            · rcases hsx.out b hb with hb | hb
              · exact .inl hb
              · exact .inr ⟨hb.1, by simp; omega⟩
            · exact .inr ⟨by omega, by simpa using hb.2⟩
          have hout5 : Hid (RdI (w5.setCell ⟨p, 1, none⟩ (.slice A5 (outL U' x).length c5)) (w5.setCell ⟨p, 1, none⟩ (.slice A5 (outL U' x).length c5)).heap.size A' out) := Lib.hid ((hout1.out.1.up b5').setP (fun b hb e => by have := hout1.out.2 b hb; omega) _ _)
          have j7 := h5.c3
          have hrt5 := h5.rt
          have d7 : (w5.setCell ⟨p, 1, none⟩ (.slice A5 (outL U' x).length c5)).cell? ⟨bt, ot + (m + k), none⟩ = some (.int .i64 x) := by
            rw [World.cell?_setCell_other _ _ _ _ (by intro e; injection e with e1 _ _; exact (H1.out.int_ bt (inA_some.2 rfl)).2 e1.symm)]
            exact (b5'.cell (p := ⟨bt, ot + (m + k), none⟩) hbt3).trans d0'
          have HRF := Lib.hid hrf; have HO5 := Lib.hid O5
          have hs7 : w.heap.size ≤ (w5.setCell ⟨p, 1, none⟩ (.slice A5 (outL U' x).length c5)).heap.size := O5.size
          clear h5 O5 hrf o5 b5 hrt5 j1 j3 y1 d0'
          go_wp2_with fail
          clear k5 z5
          generalize w5.setCell ⟨p, 1, none⟩ (.slice A5 (outL U' x).length c5) = w7 at *
          refine (with_any A' n c' x _ out hon hout5.out (by omega)).mono ?_
          rintro e w8 ⟨⟨A8, n8, c8, rfl, o8⟩, b8⟩
          have hR8 : Hid (Rf w8 p res (outL U' x) W T (Sx Rs w w8)) := Lib.hid ((HRF.out.up b8).more (fun b hb => Sx.sub hs7 b8.size b hb) (Sx.lt H0.out.lt (Nat.le_trans hs7 b8.size)))
          have hO8 : Hid (Only w w8 Rs) := Lib.hid (HO5.out.trans (Only.of_below b8))
          have hout8 : Hid (RdI w8 w8.heap.size A8 (withL out x) ∧ ∀ b, inA A8 b → w.heap.size ≤ b) := Lib.hid ⟨o8.rd, fun b hb => by have := (row_in o8 hb).1; omega⟩
          have hn8 : (withL out x).length = n8 := o8.1
          clear o8 b8 j7 d7
          go_wp2_with fail
          go_roundw
          case rel => exact ⟨k+1, n8, A8, c8, _, _, by omega, by go_num, rfl, hn8, HF2, hout8, hR8, hO8⟩
          case measure => simp [intOf]; omega
      · have HF2 : Hid ((U', out) = ((T.drop m).take (k+1)).foldl rstep (U, [])) := Lib.hid (by rw [HF.out, ← hf.out, rstep, if_neg (by simpa using hxu)])
        have HX := decide_eq_false hxu
        rw [HX] at CH
        clear hxu
        go_wp2_with fail
        go_quiet (exact CH.out _)
        have hR1 : Hid (Rf (wr.drewN nq) p res U' W T (Sx Rs w (wr.drewN nq))) := Lib.hid (hRf.out.stays (Nat.le_refl _) (fun _ _ => rfl))
        have hO1 : Hid (Only w (wr.drewN nq) Rs) := Lib.hid ⟨hO.out.os, hO.out.tape, hO.out.output, hO.out.size, hO.out.rest⟩
        have hout1 : Hid (RdI (wr.drewN nq) (wr.drewN nq).heap.size A' out ∧ ∀ b, inA A' b → w.heap.size ≤ b) := hout
        go_wp2_with fail
        go_roundw
        case rel => exact ⟨k+1, n, A', c', _, _, by omega, by go_num, rfl, hon, HF2, hout1, hR1, hO1⟩
        case measure => simp [intOf]; omega
    · obtain hk2 : m + k = T.length := by omega
      have i2 : ¬ ((m + k : Nat) : Int) < (T.length : Int) := by omega
      have e5 : (T.drop m).take k = T.drop m := by rw [List.take_of_length_le (by simp; omega)]
      rw [e5] at hf
      have hkt := hA.ct_
      have hlen : (T.take m).length = m := by simp; omega
      have z3 := hA.f3
      have h6 := hA.setT (A' := Bt) (T' := T.take m) (c' := m) (fun k' v hv => by
        rw [List.getElem?_take] at hv
        split at hv
        · exact hA.rt k' v hv
        · cases hv) (by rw [hlen]; omega) (.inr hlen.symm) (fun b hb => ⟨hA.int_ b hb, hA.ap b hb⟩)
      rw [hlen] at h6
      have O6 : Only w (wr.setCell ⟨p, 3, none⟩ (.slice Bt m m)) Rs := hO.out.trans (Only.of_set _ ⟨p, 3, none⟩ _ (.inl H0.out.inp))
      have hrf : Rf (wr.setCell ⟨p, 3, none⟩ (.slice Bt m m)) p res U' W (T.take m) (Sx Rs w (wr.setCell ⟨p, 3, none⟩ (.slice Bt m m))) := ⟨_, _, _, _, _, _, h6.more (fun b hb => hb.imp id (fun h => ⟨h.1, by simpa using h.2⟩)) (Sx.lt H0.out.lt O6.size)⟩
      have hout6 : Hid (RdI (wr.setCell ⟨p, 3, none⟩ (.slice Bt m m)) (wr.setCell ⟨p, 3, none⟩ (.slice Bt m m)).heap.size A' out) := Lib.hid (hout.out.1.setP (fun b hb e => by have := hout.out.2 b hb; omega) _ _)
      have i3 : (m : Int) ≤ (kt : Int) := by omega
      have HRF := Lib.hid hrf; have HO6 := Lib.hid O6
      clear h6 O6 hrf hA e5
      go_wp2_with fail
      go_ret2
      exact ⟨U', out, hf.out, A', n, ⟨c', rfl⟩, hon, HRF.out, hout6.out, HO6.out⟩
end
end Go.Proofs.Ytobeppeadkoieaa
