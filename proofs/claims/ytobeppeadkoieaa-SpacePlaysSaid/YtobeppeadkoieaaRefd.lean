/-
  What the reference's Keep answers and leaves.
-/
import Derived.Test.YtobeppeadkoieaaRefc
import Derived.Deep.RegionWith
namespace Go.Proofs.Ytobeppeadkoieaa
open Go.RowKit
def keepL (l : List Int) : List Int := l.foldl withL []
theorem keepL_take (l : List Int) (k : Nat) (x : Int) (h : l[k]? = some x) : keepL (l.take (k+1)) = withL (keepL (l.take k)) x := by
  rw [take_snoc l k x h, keepL, List.foldl_append]; rfl
theorem keepL_ris (l : List Int) : Ris (keepL l) := by
  unfold keepL
  have : ∀ (l acc : List Int), Ris acc → Ris (l.foldl withL acc) := by
    intro l
    induction l with
    | nil => intro acc h; exact h
    | cons x l ih => intro acc h; exact ih _ (withL_ris _ _ h)
  exact this l [] List.Pairwise.nil
theorem mem_keepL (l : List Int) (x : Int) : x ∈ keepL l ↔ x ∈ l := by
  unfold keepL
  have : ∀ (l acc : List Int), x ∈ l.foldl withL acc ↔ x ∈ acc ∨ x ∈ l := by
    intro l
    induction l with
    | nil => intro acc; simp
    | cons y l ih =>
      intro acc
      rw [List.foldl_cons, ih, mem_withL, List.mem_cons]
      exact ⟨fun h => h.elim (fun h => h.elim .inl (fun e => .inr (.inl e))) (fun h => .inr (.inr h)), fun h => h.elim (fun h => .inl (.inl h)) (fun h => h.elim (fun e => .inl (.inr e)) .inr)⟩
  rw [this]; simp
theorem keepL_len (l : List Int) : (keepL l).length ≤ l.length := by
  unfold keepL
  have : ∀ (l acc : List Int), (l.foldl withL acc).length ≤ acc.length + l.length := by
    intro l
    induction l with
    | nil => intro acc; simp
    | cons y l ih =>
      intro acc
      have h1 := ih (withL acc y)
      have h2 := withL_len acc y
      rw [List.foldl_cons, List.length_cons]; omega
  have := this l []
  simpa using this
theorem drew_size (w : World) : w.drew.heap.size = w.heap.size := rfl
theorem drew_below (w : World) : Below w.heap.size w w.drew := belowDrewN (Below.refl _ _) 1
section
variable {w : World} {p : Nat} {res : Int} {U W T : List Int} {Rs : Nat → Prop}
/-- A list that was handed in stays beside the space. -/
theorem RdI.only {w' : World} {L : Option Addr} {l : List Int} {X : Nat → Prop} (h : RdI w w.heap.size L l) (ho : Only w w' X) (hL : ∀ b, inA L b → ¬ X b) : RdI w' w'.heap.size L l := h.same ho.size (fun b hb hi => ho.rest b hb (hL b hi))
theorem Rf.keep_bad (h : Rf w p res U W T Rs) (L : Option Addr) (n c : Nat) (l : List Int) (hlen : l.length = n) (hr : RdI w w.heap.size L l) (hm : n ≤ 1000000) (hi : ∀ v ∈ l, I64 v) (hb : ¬ ∀ v ∈ l, res ≤ v ∧ v < 1048576) :
    Calls Try.prog 26 #[.pointer (some ⟨p, 0, none⟩), .slice L n c] w fun e w' => e = .returned (.int .i64 1) ∧ ∃ q, w' = w.drewN q := by
  obtain ⟨Au, cu, Aw, cw, At, ct, h⟩ := h
  have H := Lib.hid hlen; have HR := Lib.hid hr; have HB := Lib.hid hb; have HI := Lib.hid hi
  have c0 := h.c0
  clear hlen hr h hb hi
  go_enter Try.func26, Try.ntmps26
  go_wp2_with fail
  go_loopw [5] (fun i wr => ∃ (k : Nat), k ≤ n ∧ i = .int .i64 k ∧ Hid (∀ v ∈ l.take k, res ≤ v ∧ v < 1048576) ∧ ∃ q, wr = w.drewN q) (fun i _ => n - (intOf i).toNat)
  case atStart => exact ⟨0, Nat.zero_le _, rfl, Lib.hid (by simp), 0, rfl⟩
  case round =>
    obtain ⟨k, hk, rfl, hall, q, rfl⟩ := hrel
    by_cases hlt : k < n
    · obtain ⟨x, hx⟩ := get_some l k (by have := H.out; omega)
      obtain ⟨b, off, rfl, hb', d0⟩ := HR.out k x hx
      have hxi := HI.out x (List.mem_of_getElem? hx)
      unfold I64 at hxi
      by_cases h1 : x < res
      · have e1 : decide (x < res) = true := decide_eq_true h1
        clear hx h1
        go_wp2_with fail
        go_quiet (fail)
        go_wp2_with fail
        go_ret
        exact ⟨rfl, q + nq, by simp⟩
      · have e1 : decide (x < res) = false := decide_eq_false h1
        by_cases h2 : 1048576 ≤ x
        · have e2 : decide (1048576 ≤ x) = true := decide_eq_true h2
          clear hx h1 h2
          go_wp2_with fail
          go_quiet (fail)
          go_wp2_with fail
          go_ret
          exact ⟨rfl, q + nq, by simp⟩
        · have e2 : decide (1048576 ≤ x) = false := decide_eq_false h2
          have HA := Lib.hid (show ∀ v ∈ l.take (k+1), res ≤ v ∧ v < 1048576 by
            rw [take_snoc l k x hx]
            intro v hv
            rcases List.mem_append.1 hv with hv | hv
            · exact hall.out v hv
            · rw [List.mem_singleton] at hv; subst hv; omega)
          clear hx h1 h2
          go_wp2_with fail
          go_quiet (fail)
          go_wp2_with fail
          go_roundw
          case rel => exact ⟨k+1, by omega, by go_num, HA, q + nq, by simp⟩
          case measure => simp [intOf]; omega
    · exfalso
      have := hall.out
      rw [List.take_of_length_le (by have := H.out; omega)] at this
      exact HB.out this
set_option maxHeartbeats 1600000 in
set_option maxRecDepth 100000 in
theorem Rf.keep_ok (h : Rf w p res U W T Rs) (L : Option Addr) (n c : Nat) (l : List Int) (hlen : l.length = n) (hr : RdI w w.heap.size L l) (hm : n ≤ 1000000) (hL : l ≠ [] → ∀ b, inA L b → ¬ Rs b) (hin : ∀ v ∈ l, res ≤ v ∧ v < 1048576) :
    Calls Try.prog 26 #[.pointer (some ⟨p, 0, none⟩), .slice L n c] w fun e w' => e = .returned (.int .i64 0) ∧ Rf w' p res (keepL l) [] [] (Sx Rs w w') ∧ Only w w' Rs := by
  obtain ⟨Au, cu, Aw, cw, At, ct, h⟩ := h
  have H := Lib.hid hlen; have HR := Lib.hid hr; have HI := Lib.hid hin; have HL := Lib.hid hL
  have H0 := Lib.hid h
  have c0 := h.c0
  clear hlen hr h hin hL
  go_enter Try.func26, Try.ntmps26
  go_wp2_with fail
  go_loopw [5] (fun i wr => ∃ (k : Nat), k ≤ n ∧ i = .int .i64 k ∧ ∃ q, wr = w.drewN q) (fun i _ => n - (intOf i).toNat)
  case atStart => exact ⟨0, Nat.zero_le _, rfl, 0, rfl⟩
  case round =>
    obtain ⟨k, hk, rfl, q, rfl⟩ := hrel
    by_cases hlt : k < n
    · obtain ⟨x, hx⟩ := get_some l k (by have := H.out; omega)
      obtain ⟨b, off, rfl, hb', d0⟩ := HR.out k x hx
      obtain ⟨h1, h2⟩ := HI.out x (List.mem_of_getElem? hx)
      have e1 : decide (x < res) = false := decide_eq_false (by omega)
      have e2 : decide (1048576 ≤ x) = false := decide_eq_false (by omega)
      clear hx
      go_wp2_with fail
      go_quiet (fail)
      go_wp2_with fail
      go_roundw
      case rel => exact ⟨k+1, by omega, by go_num, q + nq, by simp⟩
      case measure => simp [intOf]; omega
    · obtain rfl : k = n := by omega
      clear hlt
      have O1 : Only w (w.drewN q) Rs := Only.of_below (belowDrewN (Below.refl _ _) q)
      have H1 : RfAt (w.drewN q) p res U W T Rs Au cu Aw cw At ct := H0.out.stays (Nat.le_refl _) (fun _ _ => rfl)
      have k1 := H1.c1
      have z1 := H1.f1
      have h2 := H1.setU (A' := none) (U' := []) (c' := 0) (RdI.nil _ _ _) (fun b hb => absurd hb inA_none)
      have O2 : Only w ((w.drewN q).setCell ⟨p, 1, none⟩ (.slice none 0 0)) Rs := O1.trans (Only.of_set _ ⟨p, 1, none⟩ (.slice none 0 0) (.inl H0.out.inp))
      have hr2 : Rf ((w.drewN q).setCell ⟨p, 1, none⟩ (.slice none 0 0)) p res [] W T (Sx Rs w ((w.drewN q).setCell ⟨p, 1, none⟩ (.slice none 0 0))) := ⟨_, _, _, _, _, _, h2.more (fun _ => .inl) (Sx.lt H0.out.lt O2.size)⟩
      have HR2 := Lib.hid hr2; have HO2 := Lib.hid O2
      clear H1 h2 O1 O2 hr2
      go_wp2_with fail
      clear k1 z1
      go_loopw [6] (fun i wr => ∃ (j : Nat), j ≤ k ∧ i = .int .i64 j ∧ Hid (Rf wr p res (keepL (l.take j)) W T (Sx Rs w wr)) ∧ Hid (Only w wr Rs)) (fun i _ => k - (intOf i).toNat)
      case atStart => exact ⟨0, Nat.zero_le _, rfl, HR2, HO2⟩
      case round =>
        clear HR2 HO2
        obtain ⟨j, hj, rfl, hRf, hO⟩ := hrel
        by_cases hlt : j < k
        · obtain ⟨x, hx⟩ := get_some l j (by have := H.out; omega)
          have HT := Lib.hid (keepL_take l j x hx)
          obtain ⟨b, off, rfl, hb', d0⟩ := (HR.out.only hO.out (HL.out (fun e => by rw [e] at hx; simp at hx))) j x hx
          obtain ⟨Bu, ku, Bw, kw, Bt, kt, hA⟩ := hRf.out
          have HA := Lib.hid hA
          have k1 := hA.c1
          have z1 := hA.f1
          have hp := hA.lt p hA.inp
          have hlU : (keepL (l.take j)).length ≤ 1000000 := by have h1 := keepL_len (l.take j); simp only [List.length_take] at h1; have := H.out; omega
          have CW := Lib.hid (with_any Bu (keepL (l.take j)).length ku x wr.drew (keepL (l.take j)) rfl (hA.ru.up (drew_below wr)) hlU)
          clear hx hA
          go_wp2_with fail
          go_region_with (refine CW.out.mono ?_; rintro e w5 ⟨⟨A5, n5, c5, rfl, o5⟩, b5⟩; have k5 := (b5.cell (p := ⟨p, 1, none⟩) hp).trans k1; have z5 := (b5.frozen (p := ⟨p, 1, none⟩) hp).trans z1)
          all_goals
            obtain rfl : (withL (keepL (l.take j)) x).length = n5 := o5.1
            have b5' : Below wr.heap.size wr w5 := ⟨b5.os, b5.tape, b5.output, b5.size, b5.block⟩
            have h5 := (HA.out.up b5').setU (c' := c5) o5.rd (HA.out.own_new (w := w5) o5)
            have O5 : Only w (w5.setCell ⟨p, 1, none⟩ (.slice A5 (withL (keepL (l.take j)) x).length c5)) Rs := hO.out.trans ((Only.of_below b5').trans (Only.of_set _ ⟨p, 1, none⟩ _ (.inl (.inl H0.out.inp))))
            have hrf : Rf (w5.setCell ⟨p, 1, none⟩ (.slice A5 (withL (keepL (l.take j)) x).length c5)) p res (keepL (l.take (j+1))) W T (Sx Rs w (w5.setCell ⟨p, 1, none⟩ (.slice A5 (withL (keepL (l.take j)) x).length c5))) := by
              rw [HT.out]
              refine ⟨_, _, _, _, _, _, h5.more (fun b hb => ?_) (Sx.lt H0.out.lt O5.size)⟩
              have hs1 := hO.out.size
              have hs2 := b5'.size
              rcases hb with (hb | hb) | hb
              · exact .inl hb
              · exact .inr ⟨hb.1, by simp; omega⟩
              · exact .inr ⟨by omega, by simpa using hb.2⟩
            have HRF := Lib.hid hrf; have HO5 := Lib.hid O5
            clear h5 O5 hrf o5 b5 b5' k5 z5 k1 z1
            go_wp2_with fail
            go_roundw
            case rel => exact ⟨j+1, by omega, by go_num, HRF, HO5⟩
            case measure => simp [intOf]; omega
        · obtain rfl : j = k := by omega
          have e1 : l.take j = l := by rw [List.take_of_length_le (Nat.le_of_eq H.out)]
          rw [e1] at hRf
          clear hlt
          go_wp2_with fail
          refine (hRf.out.settle).mono ?_
          rintro e w5 ⟨rfl, hR5, hO5⟩
          have O5 := hO.out.trans hO5
          have hs1 := hO.out.size
          have hs2 := hO5.size
          have R5 := Lib.hid (hR5.more (Rs' := Sx Rs w w5) (fun b hb => Sx.sub hs1 hs2 b hb) (Sx.lt H0.out.lt O5.size))
          have HO5 := Lib.hid O5
          clear hR5 hO5 O5
          go_wp2_with fail
          go_ret
          exact ⟨rfl, R5.out, HO5.out⟩
end
end Go.Proofs.Ytobeppeadkoieaa
