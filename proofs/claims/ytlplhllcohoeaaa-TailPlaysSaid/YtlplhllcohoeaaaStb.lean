/-
  The law's read whole, and its append.
-/
import Derived.Test.YtlplhllcohoeaaaSta
import Derived.Test.YtlplhllcohoeaaaLawo
namespace Go.Proofs.Ytlplhllcohoeaaa
open Go.RowKit
def St (B : Nat) (w : World) (sb : Nat) (room : Int) (N : Nat) (dn : Bool) : Prop := ∃ db tb l sf T Ah ch As cs, Sv B w sb db tb room N dn l sf T Ah ch As cs
section
variable {B : Nat} {w w' : World} {sb db tb : Nat} {room : Int} {N : Nat} {dn : Bool} {l sf : List Int} {T : Nat → Prop} {Ah : Option Addr} {ch : Nat} {As : Option Addr} {cs : Nat}
theorem read_any (h : Sv B w sb db tb room N dn l sf T Ah ch As cs) (x y : Int) (hx0 : -9223372036854775808 ≤ x) (hx1 : x ≤ 9223372036854775807) (hy0 : -9223372036854775808 ≤ y) (hy1 : y ≤ 9223372036854775807) :
    Calls Try.prog 23 #[.pointer (some ⟨sb, 0, none⟩), .int .i64 x, .int .i64 y] w fun e w' => e = .returned (.bool true) ∧ Below w.heap.size w w' := by
  by_cases hW : Within l x y
  · have hW' := hW
    unfold Within at hW'
    obtain ⟨n, rfl⟩ := Int.eq_ofNat_of_zero_le hW'.1
    obtain ⟨m, rfl⟩ := Int.eq_ofNat_of_zero_le hW'.2.1
    by_cases hd : 0 < m ∧ dn = true
    · obtain ⟨hm, rfl⟩ := hd
      refine (read_down h n m hW hm).mono ?_
      rintro e w' ⟨rfl, rfl⟩
      exact ⟨rfl, Below.refl _ _⟩
    · exact read_ok h n m hW (fun hm => by cases dn <;> simp_all)
  · refine (read_bad h x y hx0 hx1 hy0 hy1 hW).mono ?_
    rintro e w' ⟨rfl, rfl⟩
    exact ⟨rfl, Below.refl _ _⟩
theorem Sv.low (h : Sv B w sb db tb room N dn l sf T Ah ch As cs) {w' : World} {T' : Nat → Prop} (hf : Fr w w' T T') (hB : B ≤ w.heap.size) : Below B w w' := hf.below hB fun g hg hx => by
  have := h.tp.low g hx
  omega
/-- The tail's call is done: the state with what it left. -/
theorem Sv.fr {T' : Nat → Prop} (h : Sv B w sb db tb room N dn l sf T Ah ch As cs) (hf : Fr w w' T T') : w'.heap[sb]? = some (.cells #[.pointer (some ⟨db, 0, none⟩), .pointer (some ⟨tb, 0, none⟩), .slice Ah l.length ch, .slice As sf.length cs] 49 (0, 0)) ∧ ¬ T' sb ∧ RowF w' B T' Ah ch l ∧ RowF w' B T' As cs sf :=
  ⟨(hf.beside sb h.lt h.ns).1.trans h.head, (hf.beside sb h.lt h.ns).2, h.hv.fr hf, h.sv.fr hf⟩
attribute [local go_sem ↓] append_told
set_option maxRecDepth 40000 in
set_option maxHeartbeats 4000000 in
theorem append_state (h : Sv B w sb db tb room N dn l sf T Ah ch As cs) (A : Option Addr) (m c : Nat) (b : List Int) (hb : b.length = m) (hm : m ≤ 500) (hr : RdB w B A b) (hno : A = none → m = 0 ∧ c = 0) (hN : N ≤ 900000) (hB : B ≤ w.heap.size) :
    ∃ dn', Calls Try.prog 33 #[.pointer (some ⟨sb, 0, none⟩), .slice A m c] w fun e w' => e = .returned (.bool true) ∧ St B w' sb room (N + 600) dn' ∧ Below B w w' := by
  obtain ⟨c0, c1, c2, c3⟩ := h.cells
  have hl := h.len
  have hsb := h.lt
  have HB := Lib.hid hb
  have HRD : Hid (RdB w B A b) := Lib.hid hr
  have HNO := Lib.hid hno
  have HH := Lib.hid h
  have HF : Hid (∀ W, (W.cell? ⟨sb, 0, none⟩ = some (.pointer (some ⟨db, 0, none⟩)) ∧ Hid (Below w.heap.size w W)) → Calls Try.prog 36 #[.pointer (some ⟨db, 0, none⟩)] W fun e w' => e = .returned (.int .i64 (max 0 (room - l.length))) ∧ Below w.heap.size w w') := Lib.hid fun W hW => ((HH.out.up hW.2.out).tp.free).mono (fun e w' h => ⟨h.1, hW.2.out.trans (h.2.mono hW.2.out.size)⟩)
  have HD : Hid (∀ W, (W.cell? ⟨sb, 0, none⟩ = some (.pointer (some ⟨db, 0, none⟩)) ∧ Hid (Below w.heap.size w W)) → Calls Try.prog 22 #[.pointer (some ⟨db, 0, none⟩)] W fun e w' => e = .returned (.bool dn) ∧ Below w.heap.size w w') := Lib.hid fun W hW => ((HH.out.up hW.2.out).tp.down).mono (fun e w' h => ⟨h.1, by rw [← h.2]; exact hW.2.out⟩)
  have hfr0 : max 0 (room - (l.length : Int)) ≤ 3000 ∧ 0 ≤ max 0 (room - (l.length : Int)) := by omega
  generalize hfree : max 0 (room - (l.length : Int)) = free at *
  obtain ⟨dn', hAP⟩ := h.tp.append m b hb hm hN hB
  have HAP := Lib.hid hAP
  refine ⟨dn', ?_⟩
  clear h hb hr hno hAP
  go_enter Try.func33, Try.ntmps33
  go_wp2_with fail
  go_region_held3 (fun W => W.cell? ⟨sb, 0, none⟩ = some (.pointer (some ⟨db, 0, none⟩)) ∧ Hid (Below w.heap.size w W)) (first | exact ⟨c0, Lib.hid (belowDrewN (Below.refl _ _) 1)⟩ | exact ⟨(hp1.cell (p := ⟨sb, 0, none⟩) hsb).trans c0, Lib.hid hp1⟩ | (go_keep; done))
    (first
      | ((go_at_call_of 36 (Value.pointer (some ⟨db, 0, Option.none⟩)); refine (HF.out _ (by assumption)).mono ?_; rintro e wp1 ⟨rfl, hp1⟩))
      | ((go_at_call_of 22 (Value.pointer (some ⟨db, 0, Option.none⟩)); refine (HD.out _ (by assumption)).mono ?_; rintro e wp1 ⟨rfl, hp1⟩)))
  have HW := Lib.hid (HH.out.up hp1)
  have HB1 := Lib.hid hp1
  have hsz1 := hp1.size
  have hlen2 : ∀ W, RdB W B A b → B ≤ W.heap.size → RdB W W.heap.size A b := fun W h1 h2 => h1.more h2
  clear hp1 HF HD c0 c1 c2 c3 HH
  obtain ⟨e0, e1, e2, e3⟩ := HW.out.cells
  go_wp2_with fail
  refine (Lent_any A m c wp1 b HB.out (hlen2 wp1 (HRD.out.below HB1.out hB) (by omega)) (by omega)).mono ?_
  rintro e w2 ⟨⟨g, cg, rfl, ho⟩, hb2⟩
  have HW2 := Lib.hid (HW.out.up hb2)
  have HB2 := Lib.hid (HB1.out.trans (hb2.mono hsz1))
  have HO := Lib.hid ho
  have hcg := ho.cap
  have hsz2 := hb2.size
  have hg : wp1.heap.size ≤ g ∧ g < w2.heap.size := by
    obtain ⟨g', h1, h2, h3, _⟩ := ho.form (by omega)
    injection h1 with h1; injection h1 with h1
    omega
  have hng : ¬ T g := fun hx => by have := HW.out.tp.lt g hx; omega
  clear hb2 ho e0 e1 e2 e3
  obtain ⟨e0, e1, e2, e3⟩ := HW2.out.cells
  go_wp2_with fail
  refine (HAP.out w2 (some ⟨g, 0, none⟩) cg HB2.out (by omega) HO.out.rd.left (fun a e _ => by cases e; exact hng)).mono ?_
  rintro e w3 ⟨at_, z, l', T', rfl, ht, hf, hend⟩
  have HT3 := Lib.hid ht
  have HFR := Lib.hid (HW2.out.fr hf)
  have hb3 : Below B w w3 := (HB2.out.mono hB).trans (HW2.out.low hf (by omega))
  have HB3 := Lib.hid hb3
  have HO3 := Lib.hid (HO.out.keepS (w' := w3) (fun a e => by cases e; exact (hf.beside g hg.2 hng).1))
  have hsz3 := hf.size
  have hend' := Lib.hid hend
  clear ht hf hb3 hend e0 e1 e2 e3 HW HB1 HB2
  go_wp2_with fail
  refine (Kept_any (some ⟨g, 0, none⟩) m cg A c w3 b HB.out HO3.out.rd (by omega) (by unfold maxLen at hcg; omega) (hlen2 w3 (HRD.out.below HB3.out (Nat.le_refl _)) (by omega))).mono ?_
  rintro e w4 ⟨rfl, hb4⟩
  have HT4 := Lib.hid (HT3.out.up hb4)
  have HB4 := Lib.hid (HB3.out.trans (hb4.mono (by omega : B ≤ w3.heap.size)))
  obtain ⟨f1, f2, f3, f4⟩ := HFR.out
  have hs4 := hb4.size
  have HSV : Hid (∀ l2, l2 = l → Sv B w4 sb db tb room (N + 600) dn' l2 sf T' Ah ch As cs ∨ l' ≠ l2) := Lib.hid fun l2 e => by
    subst e
    by_cases hl2 : l' = l2
    · subst hl2
      exact .inl ⟨(hb4.block sb (by omega)).trans f1, HT4.out, f2, HW2.out.bs, f3.fr (Fr.of_below hb4), f4.fr (Fr.of_below hb4)⟩
    · exact .inr hl2
  have h40 : w4.heap[sb]? = some (.cells #[.pointer (some ⟨db, 0, none⟩), .pointer (some ⟨tb, 0, none⟩), .slice Ah l.length ch, .slice As sf.length cs] 49 (0, 0)) := (hb4.block sb (by omega)).trans f1
  have c0 := cell_of_row _ _ 0 _ 49 (0, 0) h40
  have c2 := cell_of_row _ _ 2 _ 49 (0, 0) h40
  have z2 : w4.frozen? ⟨sb, 2, none⟩ = false := by simp [World.frozen?, h40]
  have H40 := Lib.hid h40
  have HR4 := Lib.hid (f3.fr (Fr.of_below hb4))
  have HR5 := Lib.hid (f4.fr (Fr.of_below hb4))
  have HNS := Lib.hid f2
  have HBS := Lib.hid HW2.out.bs
  simp at c0 c2
  clear hb4 f1 f2 f3 f4 h40 HT3 HB3 HO3 HFR HW2 HO
  rcases hend'.out with ⟨rfl, rfl, rfl, rfl, hfit, rfl⟩ | ⟨rfl, rfl, rfl, rfl⟩ | ⟨rfl, rfl, rfl, rfl, hfit, rfl⟩
  · rw [hfree] at hfit
    have hfit2 : ¬ (free < (m : Int)) := by omega
    have hB4 : B ≤ w4.heap.size := by omega
    go_wp2_with fail
    refine (Copy_any Ah l.length ch w4 l rfl HR4.out.1.rd (by omega)).mono ?_
    rintro e w5 ⟨⟨A5, c5, rfl, ho5⟩, hb5⟩
    have hb45 : Below B w w5 := HB4.out.trans (hb5.mono hB4)
    obtain ⟨A6, c6, w6, hrun, ho6, hb6⟩ := told_own w5 w4.heap.size A5 l.length c5 l ho5 A m c b HB.out (hlen2 w5 (HRD.out.below hb45 (Nat.le_refl _)) (Nat.le_trans hB4 hb5.size)) HNO.out (by omega) hb5.size
    have hb46 : Below w4.heap.size w4 w6 := hb5.trans hb6
    have hsb4 : sb < w4.heap.size := by omega
    have c26 : w6.cell? ⟨sb, 2, none⟩ = some (.slice Ah l.length ch) := (hb46.cell (p := ⟨sb, 2, none⟩) hsb4).trans c2
    have z26 : w6.frozen? ⟨sb, 2, none⟩ = false := (hb46.frozen (p := ⟨sb, 2, none⟩) hsb4).trans z2
    have HSV6 : Hid (Sv B (w6.setCell ⟨sb, 2, none⟩ (.slice A6 (l.length + m) c6)) sb db tb room (N + 600) false (l ++ b) sf T' A6 c6 As cs) := Lib.hid (by
      have hk : ∀ x, x < w4.heap.size → x ≠ sb → (w6.setCell ⟨sb, 2, none⟩ (.slice A6 (l.length + m) c6)).heap[x]? = w4.heap[x]? := fun x hx hne => (heap_setCell_other _ _ _ _ hne).trans (hb46.block x hx)
      have hns : ∀ x, T' x → x ≠ sb := fun x hx e => HNS.out (by rw [← e]; exact hx)
      have hlen : (l ++ b).length = l.length + m := by rw [List.length_append, HB.out]
      have hodd : Odd w6 sb 49 := cells_odd ((hb46.block sb hsb4).trans H40.out) (by simp)
      have hk6 : ∀ x, x ≠ sb → (w6.setCell ⟨sb, 2, none⟩ (.slice A6 (l.length + m) c6)).heap[x]? = w6.heap[x]? := fun x hx => heap_setCell_other _ _ _ _ hx
      have hr5 := HR5.out.fr (Fr.of_below (S := T') hb46)
      refine ⟨?_, HT4.out.keep (by have := hb46.size; simpa using this) (fun x hx => hk x (HT4.out.lt x hx) (hns x hx)), HNS.out, HBS.out, ⟨?_, fun a e hx => ?_⟩, ⟨hr5.1.keepX hodd (by decide) hk6, hr5.2⟩⟩
      · rw [heap_setCell_same _ _ _ _ _ _ ((hb46.block sb hsb4).trans H40.out), hlen]
        rfl
      · rw [hlen]
        exact (ho6.mono hB4).keepX hodd (by decide) hk6
      · have h1 := HT4.out.lt _ hx
        by_cases hz : l.length + m = 0
        · have h2 := ho6.2.2
          rcases h2 with ⟨hv, _⟩ | ⟨g', cap, cur, hv, hge, _⟩
          · rw [e] at hv; cases hv
          · rw [e] at hv; injection hv with hv _ _; injection hv with hv; rw [hv] at h1; simp only at h1; omega
        · obtain ⟨g', h2, h3, _⟩ := ho6.form (by omega)
          rw [h2] at e; injection e with e; rw [← e] at h1; simp only at h1; omega)
    have HBW : Hid (Below B w (w6.setCell ⟨sb, 2, none⟩ (.slice A6 (l.length + m) c6))) := Lib.hid ((HB4.out.trans (hb46.mono hB4)).setCell HBS.out _)
    clear hb5 hb45 ho5 ho6 hb6 hb46 HSV c0 c2 z2
    go_wp2_with fail
    go_ret
    exact ⟨rfl, ⟨_, _, _, _, _, _, _, _, _, HSV6.out⟩, HBW.out⟩
  · go_wp2_with fail
    refine HT4.out.down.mono ?_
    rintro e w5 ⟨rfl, rfl⟩
    go_wp2_with fail
    go_ret
    exact ⟨rfl, ⟨_, _, _, _, _, _, _, _, _, (HSV.out _ rfl).resolve_right (fun h => h rfl)⟩, HB4.out⟩
  · rw [hfree] at hfit
    go_wp2_with fail
    go_ret
    exact ⟨rfl, ⟨_, _, _, _, _, _, _, _, _, (HSV.out _ rfl).resolve_right (fun h => h rfl)⟩, HB4.out⟩
end
end Go.Proofs.Ytlplhllcohoeaaa
