/-
  The law RedoOpens: any bytes are opened as the journal that they are, or refused.
-/
import Derived.Test.YtblibmalommdkaaGreatDB
import Derived.Test.YtblibmalommdkaaGreatROpen
import Derived.Test.YtblibmalommdkaaGreatEC
namespace Go.Proofs.YtblibmalommdkaaGreat
open Go.RowKit
open Re (Sup RdB Bytes OwnB mk3)
/-- What is told of bytes. -/
def ResJ (l : List Int) (v : JnV) (z : Int) : Prop := (pJour l = some v.jn ∧ MayJ v.jn ∧ z = 0) ∨ ((∀ j, pJour l = some j → ¬ MayJ j) ∧ v = jn0 ∧ z = 4)
theorem ResJ.same {l : List Int} {v u : JnV} {z y : Int} (h : ResJ l v z) (g : ResJ l u y) : v.jn = u.jn ∧ z = y := by
  rcases h with ⟨h1, h2, h3⟩ | ⟨h1, h2, h3⟩
  · rcases g with ⟨g1, g2, g3⟩ | ⟨g1, g2, g3⟩
    · rw [h1] at g1
      injection g1 with g1
      exact ⟨g1, by omega⟩
    · exact absurd h2 (g1 _ h1)
  · rcases g with ⟨g1, g2, g3⟩ | ⟨g1, g2, g3⟩
    · exact absurd g2 (h1 _ g1)
    · rw [h2, g2]; exact ⟨rfl, by omega⟩
theorem jn0_ok (w : World) (B : Nat) : JnOk w B jn0 :=
  ⟨⟨fun k s hs => by simp [jn0] at hs, by simp [jn0], fun _ => ⟨rfl, rfl⟩, fun r hr => by simp [jn0] at hr, fun k v hv => by simp [jn0] at hv, by simp [jn0], fun _ => ⟨rfl, rfl⟩, by unfold I64; simp [jn0]⟩, Re.RdB.nil _ _ _, by simp [jn0], fun _ => ⟨rfl, rfl⟩, by unfold I64; simp [jn0]⟩
/-- What either Open answers. -/
def AnsJ (l : List Int) (w : World) (e : Ending) (w' : World) : Prop := (∃ (v : JnV) (z : Int), e = .returned (.tuple #[.agg v.cells, .int .i64 z]) ∧ JnOk w' w'.heap.size v ∧ ResJ l v z) ∧ Below w.heap.size w w'
theorem ans_of {l : List Int} {w w' : World} {e : Ending} (h : ((∃ v : JnV, pJour l = some v.jn ∧ MayJ v.jn ∧ e = .returned (.tuple #[.agg v.cells, .int .i64 0]) ∧ JnOk w' w'.heap.size v) ∨ ((∀ j, pJour l = some j → ¬ MayJ j) ∧ e = .returned (.tuple #[.agg jn0.cells, .int .i64 4]))) ∧ Below w.heap.size w w') : AnsJ l w e w' := by
  obtain ⟨h, hb⟩ := h
  refine ⟨?_, hb⟩
  rcases h with ⟨v, h1, h2, h3, h4⟩ | ⟨h1, h2⟩
  · exact ⟨v, 0, h3, h4, .inl ⟨h1, h2, rfl⟩⟩
  · exact ⟨jn0, 4, h2, jn0_ok _ _, .inr ⟨h1, rfl, rfl⟩⟩
theorem plan_small {l : List Int} (hy : Bytes l) {q : Pln} {b : Nat} (h : Re.pPlan l 68 = some (q, b)) : q.stash.length * 8 ≤ l.length ∧ q.waves.length ≤ l.length := by
  have ha : 68 ≤ l.length := by
    unfold Re.pPlan at h
    cases hn : Re.num l 4 68 with
    | none => rw [hn] at h; cases h
    | some p =>
      obtain ⟨x, y⟩ := p
      have := (Re.num_some hn).1
      omega
  have := plan_bd hy ha h
  exact ⟨this.2.2.2.1, this.2.2.2.2.1⟩
set_option maxRecDepth 100000 in
set_option maxHeartbeats 8000000 in
theorem opens_walk (A : Option Addr) (len cap : Nat) (w : World) (l : List Int) (hl : l.length = len) (hr : RdB w w.heap.size A l) (hy : Bytes l) (hc : len ≤ cap) (hcm : cap ≤ 9223372036854775807) (hno : A = none → cap = 0) :
    Calls Tryz.prog 3 #[.slice A len cap] w fun e w' => e = .returned (.bool true) ∧ Below w.heap.size w w' := by
  have HL := Lib.hid hl; have HR := Lib.hid hr; have HY := Lib.hid hy; have HNO := Lib.hid hno
  clear hl hr hy hno
  go_enter Tryz.func3, Tryz.ntmps3
  go_wp2_with fail
  refine (Re.awake_any _).mono ?_
  rintro e w1 ⟨rfl, hb1⟩
  have HB1 := Lib.hid hb1
  clear hb1
  by_cases h5 : 5000 < len
  · have h5' : (5000 : Int) < (len : Int) := by omega
    go_wp2_with fail
    refine (Re.awake_any _).mono ?_
    rintro e w2 ⟨rfl, hb2⟩
    have HB2 := Lib.hid (HB1.out.trans (hb2.mono HB1.out.size))
    clear hb2
    go_wp2_with fail
    go_ret
    exact ⟨rfl, HB2.out⟩
  have h5' : ¬ (5000 : Int) < (len : Int) := by omega
  go_wp2_with fail
  refine (Re.Lent_any A len cap w1 l HL.out ((HR.out.below HB1.out (Nat.le_refl _)).more HB1.out.size) (by omega)).mono ?_
  rintro e w2 ⟨⟨g, c2, rfl, hown⟩, hb2⟩
  have HB2 := Lib.hid (HB1.out.trans (hb2.mono HB1.out.size))
  have HO2 := Lib.hid hown
  have hrd2 : RdB w2 w2.heap.size (some ⟨g, 0, none⟩) l := by
    have h := hown.rd.piece 0 len
    rw [List.drop_zero, List.take_append_of_le_length (by rw [HL.out]; exact Nat.le_refl _), List.take_of_length_le (by rw [HL.out]; exact Nat.le_refl _)] at h
    exact h
  have hcap2 := hown.cap
  unfold maxLen at hcap2
  have HSM : Hid (∀ q b, Re.pPlan l 68 = some (q, b) → q.stash.length ≤ 100000 ∧ q.waves.length ≤ 1000000) := Lib.hid fun q b h => by
    have h1 := plan_small HY.out h
    rw [HL.out] at h1
    omega
  have hcall := Open_any w2 (some ⟨g, 0, none⟩) len c2 l HL.out hrd2 HY.out (by omega) ⟨by omega, by omega⟩ (.inr ⟨g, 0, rfl⟩) HSM.out
  clear hb2 hown hrd2
  go_wp2_with fail
  refine hcall.mono ?_
  rintro e w3 h
  obtain ⟨⟨⟨old, ⟨t0, t1, t2, t3, t4⟩, ⟨sz, SA, sc, st, WA, wq, Q⟩, TA, tc, tl⟩, z, rfl, hok, hres⟩, hb3⟩ := ans_of h
  have HB3 := Lib.hid (HB2.out.trans (hb3.mono HB2.out.size))
  have HO3 := Lib.hid ((HO2.out.rd.below hb3 (Nat.le_refl _)).more hb3.size)
  have HOK3 := Lib.hid hok
  have HRES := Lib.hid hres
  clear h hb3 hok hres hcall HO2
  unfold JnV.cells
  simp only
  go_upto_region 5 with (fail)
  have hba : Below w3.heap.size w3 (w3.alloc (.cells #[.int .i64 old, .int .i64 t0, .int .i64 t1, .int .i64 t2, .int .i64 t3, .int .i64 t4, .int .i64 sz, .slice SA st.length sc, .slice WA Q.length wq, .slice TA tl.length tc] 32)) := (Below.refl _ _).alloc (Nat.le_refl _) _
  have HX4 := Lib.hid (heap_alloc_new w3 (.cells #[.int .i64 old, .int .i64 t0, .int .i64 t1, .int .i64 t2, .int .i64 t3, .int .i64 t4, .int .i64 sz, .slice SA st.length sc, .slice WA Q.length wq, .slice TA tl.length tc] 32))
  have HB4 := Lib.hid (HB3.out.trans (hba.mono HB3.out.size))
  have HO4 := Lib.hid ((HO3.out.below hba (Nat.le_refl _)).more hba.size)
  have HOK4 := Lib.hid (HOK3.out.up hba)
  have hlt4 : w3.heap.size < (w3.alloc (.cells #[.int .i64 old, .int .i64 t0, .int .i64 t1, .int .i64 t2, .int .i64 t3, .int .i64 t4, .int .i64 sz, .slice SA st.length sc, .slice WA Q.length wq, .slice TA tl.length tc] 32)).heap.size := by simp
  clear hba HB3 HO3 HOK3
  generalize w3.alloc (.cells #[.int .i64 old, .int .i64 t0, .int .i64 t1, .int .i64 t2, .int .i64 t3, .int .i64 t4, .int .i64 sz, .slice SA st.length sc, .slice WA Q.length wq, .slice TA tl.length tc] 32) = w4 at *
  obtain ⟨vb, hvb⟩ : ∃ vb, vb = w3.heap.size := ⟨_, rfl⟩
  rw [← hvb] at HX4 hlt4 ⊢
  clear hvb
  have hcall := RefOpen_any w4 A len cap l HL.out ((HR.out.below HB4.out (Nat.le_refl _)).more HB4.out.size) HY.out (by omega) ⟨hc, hcm⟩ (fun h => by have := HNO.out h; omega) HSM.out
  go_wp2_with fail
  refine hcall.mono ?_
  rintro e w5 h
  obtain ⟨⟨⟨old2, ⟨s0, s1, s2, s3, s4⟩, ⟨sz2, SA2, sc2, st2, WA2, wq2, Q2⟩, TA2, tc2, tl2⟩, y, rfl, hok, hres⟩, hb5⟩ := ans_of h
  have HB5 := Lib.hid (HB4.out.trans (hb5.mono HB4.out.size))
  have HO5 := Lib.hid ((HO4.out.below hb5 (Nat.le_refl _)).more hb5.size)
  have HOK5 := Lib.hid (HOK4.out.up hb5)
  have HX5 := Lib.hid ((hb5.block _ hlt4).trans HX4.out)
  have HUK5 := Lib.hid hok
  have HSAME := Lib.hid (HRES.out.same hres)
  have hlt5 : vb < w5.heap.size := Nat.lt_of_lt_of_le hlt4 hb5.size
  obtain rfl := HSAME.out.2
  clear h hb5 hok hres hcall HB4 HO4 HOK4 HX4 HRES hlt4
  unfold JnV.cells
  simp only
  go_upto_region 6 with (fail)
  have hba : Below w5.heap.size w5 (w5.alloc (.cells #[.int .i64 old2, .int .i64 s0, .int .i64 s1, .int .i64 s2, .int .i64 s3, .int .i64 s4, .int .i64 sz2, .slice SA2 st2.length sc2, .slice WA2 Q2.length wq2, .slice TA2 tl2.length tc2] 32)) := (Below.refl _ _).alloc (Nat.le_refl _) _
  have HY6 := Lib.hid (heap_alloc_new w5 (.cells #[.int .i64 old2, .int .i64 s0, .int .i64 s1, .int .i64 s2, .int .i64 s3, .int .i64 s4, .int .i64 sz2, .slice SA2 st2.length sc2, .slice WA2 Q2.length wq2, .slice TA2 tl2.length tc2] 32))
  have HX6 := Lib.hid ((hba.block _ hlt5).trans HX5.out)
  have HB6 := Lib.hid (HB5.out.trans (hba.mono HB5.out.size))
  have HO6 := Lib.hid ((HO5.out.below hba (Nat.le_refl _)).more hba.size)
  have HOK6 := Lib.hid (HOK5.out.up hba)
  have HUK6 := Lib.hid (HUK5.out.up hba)
  clear hba HB5 HO5 HOK5 HX5 HUK5 hlt5
  generalize w5.alloc (.cells #[.int .i64 old2, .int .i64 s0, .int .i64 s1, .int .i64 s2, .int .i64 s3, .int .i64 s4, .int .i64 sz2, .slice SA2 st2.length sc2, .slice WA2 Q2.length wq2, .slice TA2 tl2.length tc2] 32) = w6 at *
  obtain ⟨ub, hub⟩ : ∃ ub, ub = w5.heap.size := ⟨_, rfl⟩
  rw [← hub] at HY6 ⊢
  clear hub
  have c0 : w6.cell? ⟨vb, 0, none⟩ = some (.int .i64 old) := cell_of_row _ _ 0 _ 32 (0, 0) HX6.out
  have c1 : w6.cell? ⟨vb, 1, none⟩ = some (.int .i64 t0) := cell_of_row _ _ 1 _ 32 (0, 0) HX6.out
  have c2 : w6.cell? ⟨vb, 2, none⟩ = some (.int .i64 t1) := cell_of_row _ _ 2 _ 32 (0, 0) HX6.out
  have c3 : w6.cell? ⟨vb, 3, none⟩ = some (.int .i64 t2) := cell_of_row _ _ 3 _ 32 (0, 0) HX6.out
  have c4 : w6.cell? ⟨vb, 4, none⟩ = some (.int .i64 t3) := cell_of_row _ _ 4 _ 32 (0, 0) HX6.out
  have c5 : w6.cell? ⟨vb, 5, none⟩ = some (.int .i64 t4) := cell_of_row _ _ 5 _ 32 (0, 0) HX6.out
  have c6 : w6.cell? ⟨vb, 6, none⟩ = some (.int .i64 sz) := cell_of_row _ _ 6 _ 32 (0, 0) HX6.out
  have c7 : w6.cell? ⟨vb, 7, none⟩ = some (.slice SA st.length sc) := cell_of_row _ _ 7 _ 32 (0, 0) HX6.out
  have c8 : w6.cell? ⟨vb, 8, none⟩ = some (.slice WA Q.length wq) := cell_of_row _ _ 8 _ 32 (0, 0) HX6.out
  have c9 : w6.cell? ⟨vb, 9, none⟩ = some (.slice TA tl.length tc) := cell_of_row _ _ 9 _ 32 (0, 0) HX6.out
  have k0 : w6.cell? ⟨ub, 0, none⟩ = some (.int .i64 old2) := cell_of_row _ _ 0 _ 32 (0, 0) HY6.out
  have k1 : w6.cell? ⟨ub, 1, none⟩ = some (.int .i64 s0) := cell_of_row _ _ 1 _ 32 (0, 0) HY6.out
  have k2 : w6.cell? ⟨ub, 2, none⟩ = some (.int .i64 s1) := cell_of_row _ _ 2 _ 32 (0, 0) HY6.out
  have k3 : w6.cell? ⟨ub, 3, none⟩ = some (.int .i64 s2) := cell_of_row _ _ 3 _ 32 (0, 0) HY6.out
  have k4 : w6.cell? ⟨ub, 4, none⟩ = some (.int .i64 s3) := cell_of_row _ _ 4 _ 32 (0, 0) HY6.out
  have k5 : w6.cell? ⟨ub, 5, none⟩ = some (.int .i64 s4) := cell_of_row _ _ 5 _ 32 (0, 0) HY6.out
  have k6 : w6.cell? ⟨ub, 6, none⟩ = some (.int .i64 sz2) := cell_of_row _ _ 6 _ 32 (0, 0) HY6.out
  have k7 : w6.cell? ⟨ub, 7, none⟩ = some (.slice SA2 st2.length sc2) := cell_of_row _ _ 7 _ 32 (0, 0) HY6.out
  have k8 : w6.cell? ⟨ub, 8, none⟩ = some (.slice WA2 Q2.length wq2) := cell_of_row _ _ 8 _ 32 (0, 0) HY6.out
  have k9 : w6.cell? ⟨ub, 9, none⟩ = some (.slice TA2 tl2.length tc2) := cell_of_row _ _ 9 _ 32 (0, 0) HY6.out
  have hS := SameJ_true ⟨old, ⟨t0, t1, t2, t3, t4⟩, ⟨sz, SA, sc, st, WA, wq, Q⟩, TA, tc, tl⟩ ⟨old2, ⟨s0, s1, s2, s3, s4⟩, ⟨sz2, SA2, sc2, st2, WA2, wq2, Q2⟩, TA2, tc2, tl2⟩ w6 HOK6.out HUK6.out HSAME.out.1
  unfold JnV.cells at hS
  simp only at hS
  go_wp2_with fail
  refine hS.mono ?_
  rintro e w7 ⟨rfl, hb⟩
  have HB7 := Lib.hid (HB6.out.trans (hb.mono HB6.out.size))
  have HO7 := Lib.hid ((HO6.out.below hb (Nat.le_refl _)).more hb.size)
  clear hS hb c0 c1 c2 c3 c4 c5 c6 c7 c8 c9 k0 k1 k2 k3 k4 k5 k6 k7 k8 k9
  go_wp2_with fail
  refine (Re.Kept_any (some ⟨g, 0, none⟩) len c2 A cap w7 l HL.out HO7.out (by omega) (by omega) ((HR.out.below HB7.out (Nat.le_refl _)).more HB7.out.size)).mono ?_
  rintro e w8 ⟨rfl, hb⟩
  have HB8 := Lib.hid (HB7.out.trans (hb.mono HB7.out.size))
  clear hb
  go_wp2_with fail
  go_ret
  exact ⟨rfl, HB8.out⟩
end Go.Proofs.YtblibmalommdkaaGreat
