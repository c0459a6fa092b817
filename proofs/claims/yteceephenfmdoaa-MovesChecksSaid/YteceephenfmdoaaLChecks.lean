/-
  MovesChecks' law: any plan is found to be one that may be run just if it is by the document's words; it stays.
-/
import Derived.Test.YteceephenfmdoaaLMakes
import Derived.Test.YteceephenfmdoaaNCopy
import Derived.Test.YteceephenfmdoaaMSame
namespace Go.Proofs.Yteceephenfmdoaa
open Go.RowKit
theorem totS_same {W V : List WvV} (h : W.map WvV.wv = V.map WvV.wv) : totS W = totS V := by
  have e : ∀ W : List WvV, totS W = (W.map WvV.wv).foldl (fun n v => IntKind.i64.wrap (n + v.length)) 0 := by
    intro W
    unfold totS
    rw [List.foldl_map]
    simp [WvV.wv]
  rw [e, e, h]
theorem sumS_le {M : Nat} : ∀ {W : List WvV}, (∀ v ∈ W, v.steps.length ≤ M) → sumS W ≤ W.length * M := by
  intro W
  induction W with
  | nil => intro _; simp [sumS]
  | cons v W ih =>
    intro h
    have h1 := h v (by simp)
    have h2 := ih (fun u hu => h u (by simp [hu]))
    simp only [sumS, List.length_cons, Nat.add_mul]
    omega
theorem le_sumS : ∀ {W : List WvV} {v : WvV}, v ∈ W → v.steps.length ≤ sumS W := by
  intro W
  induction W with
  | nil => intro v h; cases h
  | cons u W ih =>
    intro v h
    rcases List.mem_cons.1 h with rfl | h
    · simp only [sumS]; omega
    · have := ih h
      simp only [sumS]; omega
/-- A copy of a plan reads as a plan. -/
theorem OwnP.ok_of {w0 w : World} {B base : Nat} {p q : PlV} (h : OwnP w base q) (he : q.pln = p.pln) (hp : PlOk w0 B p) : PlOk w w.heap.size q := by
  simp only [PlV.pln, Pln.mk.injEq] at he
  obtain ⟨e0, e1, e2⟩ := he
  refine h.ok (fun v hv s hs => ?_) (by rw [e1]; exact hp.si) (by rw [e0]; exact hp.sz)
  have h1 : v.wv ∈ p.waves.map WvV.wv := by rw [← e2]; exact List.mem_map.2 ⟨v, hv, rfl⟩
  obtain ⟨v', hv', ev⟩ := List.mem_map.1 h1
  have h2 : s.st ∈ v'.wv := by rw [ev]; exact List.mem_map.2 ⟨s, hs, rfl⟩
  obtain ⟨s', hs', es⟩ := List.mem_map.1 h2
  obtain ⟨k, hk⟩ := List.getElem?_of_mem hv'
  obtain ⟨j, hj⟩ := List.getElem?_of_mem hs'
  obtain ⟨_, _, _, _, _, hwv⟩ := hp.wv k v' hk
  obtain ⟨_, _, _, _, _, _, hst⟩ := hwv.rd j s' hj
  have := hst.b
  have e : s'.blk = s.blk := congrArg Prod.fst es
  rw [← e]
  exact this
set_option maxRecDepth 100000 in
set_option maxHeartbeats 8000000 in
theorem checks_walk (p : PlV) (size tail : Int) (w : World) (hP : PlOk w w.heap.size p) (hs : I64 size) (ht : I64 tail) (hx : ∀ v ∈ p.waves, v.steps.length ≤ 140737488355328 ∧ ∀ s ∈ v.steps, s.parts.length * 24 ≤ 140737488355328) :
    Calls Try.prog 5 #[.agg p.cells, .int .i64 size, .int .i64 tail] w fun e w' => e = .returned (.bool true) ∧ Below w.heap.size w w' := by
  have HBX : Hid (Bxp (w.alloc (.cells p.cells 32)) w.heap.size p) := Lib.hid (Bxp.made hP)
  have HB1 : Hid (Below w.heap.size w (w.alloc (.cells p.cells 32))) := Lib.hid ((Below.refl _ _).alloc (Nat.le_refl _) _)
  have HX := Lib.hid hx
  have HP := Lib.hid hP
  unfold I64 at hs ht
  clear hP hx
  obtain ⟨n, SA, sc, stash, WA, wq, waves⟩ := p
  unfold PlV.cells at *
  simp only at *
  go_enter Try.func5, Try.ntmps5
  go_wp2_with fail
  have hvbw : w.heap.size < (w.alloc (.cells #[.int .i64 n, .slice SA stash.length sc, .slice WA waves.length wq] 32)).heap.size := by simp
  generalize w.alloc (.cells #[.int .i64 n, .slice SA stash.length sc, .slice WA waves.length wq] 32) = W1 at *
  generalize hpb : w.heap.size = pb at *
  have HPB := Lib.hid hpb
  clear hpb
  refine (awake_any W1).mono ?_
  rintro e w2 ⟨rfl, hb2⟩
  have HB2 := Lib.hid (HB1.out.trans (hb2.mono (by omega)))
  have HBX2 := Lib.hid (HBX.out.up hb2)
  have hv2 : pb < w2.heap.size := by have := hb2.size; omega
  clear hb2 HB1 HBX hvbw
  obtain ⟨c0, c1, c2⟩ := HBX2.out.cells
  go_wp2_with fail
  refine (RefTotal_any ⟨n, SA, sc, stash, WA, wq, waves⟩ w2 HBX2.out.ok).mono ?_
  rintro e w3 ⟨rfl, hb3⟩
  have HB3 := Lib.hid (HB2.out.trans (hb3.mono (by omega)))
  have HBX3 := Lib.hid (HBX2.out.up hb3)
  have hv3 : pb < w3.heap.size := by have := hb3.size; omega
  clear hb3 HB2 HBX2 hv2 c0 c1 c2
  obtain ⟨c0, c1, c2⟩ := HBX3.out.cells
  simp only
  generalize hT : totS waves = T at *
  have HT := Lib.hid hT
  clear hT
  have great : ∀ w4 : World, w3 = w4 → Calls Try.prog 11 #[] w4 fun e w' => e = .returned (.bool true) ∧ Below pb w w' := fun w4 he => by
    subst he
    exact (awake_any w3).mono fun e w' h => ⟨h.1, HB3.out.trans (h.2.mono (by omega))⟩
  have GREAT := Lib.hid great
  clear great
  by_cases g1 : (200 : Int) < T
  · go_wp2_with fail
    refine (GREAT.out _ rfl).mono ?_
    rintro e w4 ⟨rfl, hb4⟩
    have HB4 := Lib.hid hb4
    clear hb4
    go_wp2_with fail
    go_ret
    obtain rfl := HPB.out
    exact ⟨rfl, HB4.out⟩
  · by_cases g2 : (200 : Int) < (waves.length : Int)
    · go_wp2_with fail
      refine (GREAT.out _ rfl).mono ?_
      rintro e w4 ⟨rfl, hb4⟩
      have HB4 := Lib.hid hb4
      clear hb4
      go_wp2_with fail
      go_ret
      obtain rfl := HPB.out
      exact ⟨rfl, HB4.out⟩
    · by_cases g3 : (60 : Int) < (stash.length : Int)
      · go_wp2_with fail
        refine (GREAT.out _ rfl).mono ?_
        rintro e w4 ⟨rfl, hb4⟩
        have HB4 := Lib.hid hb4
        clear hb4
        go_wp2_with fail
        go_ret
        obtain rfl := HPB.out
        exact ⟨rfl, HB4.out⟩
      · have hsum : ∀ v ∈ waves, v.steps.length ≤ 200 := fun v hv => by
          have h1 := sumS_le (W := waves) (M := 140737488355328) (fun u hu => (HX.out u hu).1)
          have h2 : waves.length * 140737488355328 ≤ 200 * 140737488355328 := by omega
          have h3 := totS_eq (W := waves) (by omega)
          have h4 := le_sumS hv
          have h5 := HT.out
          omega
        have HSM := Lib.hid hsum
        clear hsum GREAT
        go_wp2_with fail
        refine (Copy_plan ⟨n, SA, sc, stash, WA, wq, waves⟩ w3 HBX3.out.ok (by simp only; omega) (by simp only; omega) (fun v hv => ⟨by have := HSM.out v hv; omega, (HX.out v hv).2⟩)).mono ?_
        rintro e w4 ⟨⟨q, rfl, hqe, hqo⟩, hb4⟩
        have HQ4 : Hid (PlOk w4 w4.heap.size q) := Lib.hid (hqo.ok_of hqe HBX3.out.ok)
        have HBX4 := Lib.hid (HBX3.out.up hb4)
        have HB4 := Lib.hid (HB3.out.trans (hb4.mono (by omega)))
        have hv4 : pb < w4.heap.size := by have := hb4.size; omega
        have HQE := Lib.hid hqe
        have hba : Below w4.heap.size w4 (w4.alloc (.cells q.cells 32)) := (Below.refl _ _).alloc (Nat.le_refl _) _
        have HQX : Hid (Bxp (w4.alloc (.cells q.cells 32)) w4.heap.size q) := Lib.hid (Bxp.made HQ4.out)
        have HBX5 := Lib.hid (HBX4.out.up hba)
        have HB5 := Lib.hid (HB4.out.trans (hba.mono (by omega)))
        have HQW : Hid (q.stash.length = stash.length ∧ q.waves.length = waves.length) := Lib.hid (by
          have h := hqe
          simp only [PlV.pln, Pln.mk.injEq] at h
          refine ⟨by rw [h.2.1], ?_⟩
          have := congrArg List.length h.2.2
          simpa using this)
        have HTQ : Hid (totS q.waves = T) := Lib.hid (by
          have h := hqe
          simp only [PlV.pln, Pln.mk.injEq] at h
          rw [totS_same h.2.2, HT.out])
        clear hqe hqo hb4 hba HQ4 HBX4 HB4 HBX3 HB3 HSM c0 c1 c2
        obtain ⟨n2, SA2, sc2, stash2, WA2, wq2, waves2⟩ := q
        unfold PlV.cells at *
        simp only at *
        go_wp2_with fail
        have hq5 : w4.heap.size < (w4.alloc (.cells #[.int .i64 n2, .slice SA2 stash2.length sc2, .slice WA2 waves2.length wq2] 32)).heap.size := by simp
        generalize w4.alloc (.cells #[.int .i64 n2, .slice SA2 stash2.length sc2, .slice WA2 waves2.length wq2] 32) = W5 at *
        generalize w4.heap.size = qb at *
        refine (Check_any ⟨n2, SA2, sc2, stash2, WA2, wq2, waves2⟩ size tail W5 HQX.out.ok hs.2 ht.2 (by have := HQW.out.1; simp only; omega) (by have := HQW.out.2; simp only; omega)).mono ?_
        rintro e w6 ⟨rfl, hb6⟩
        have HE : Hid (checkV (PlV.pln ⟨n2, SA2, sc2, stash2, WA2, wq2, waves2⟩) size tail = checkV (PlV.pln ⟨n, SA, sc, stash, WA, wq, waves⟩) size tail) := Lib.hid (by rw [HQE.out])
        rw [HE.out]
        have HQX6 := Lib.hid (HQX.out.up hb6)
        have HBX6 := Lib.hid (HBX5.out.up hb6)
        have HB6 := Lib.hid (HB5.out.trans (hb6.mono (by omega)))
        have hv6 : qb < w6.heap.size := by have := hb6.size; omega
        clear hb6 HQX HBX5 HB5 HE hq5
        generalize hE : checkV (PlV.pln ⟨n, SA, sc, stash, WA, wq, waves⟩) size tail = E at *
        have HE := Lib.hid hE
        clear hE
        go_upto_region 5 with (fail)
        obtain ⟨l0, l1, l2⟩ := HBX6.out.cells
        obtain ⟨m0, m1, m2⟩ := HQX6.out.cells
        have a0 : ∀ r : Qs w6, r.1.cell? ⟨pb, 0, none⟩ = some (.int .i64 n) := fun r => r.cell l0
        have a1 : ∀ r : Qs w6, r.1.cell? ⟨pb, 1, none⟩ = some (.slice SA stash.length sc) := fun r => r.cell l1
        have a2 : ∀ r : Qs w6, r.1.cell? ⟨pb, 2, none⟩ = some (.slice WA waves.length wq) := fun r => r.cell l2
        have b0 : ∀ r : Qs w6, r.1.cell? ⟨qb, 0, none⟩ = some (.int .i64 n2) := fun r => r.cell m0
        have b1 : ∀ r : Qs w6, r.1.cell? ⟨qb, 1, none⟩ = some (.slice SA2 stash2.length sc2) := fun r => r.cell m1
        have b2 : ∀ r : Qs w6, r.1.cell? ⟨qb, 2, none⟩ = some (.slice WA2 waves2.length wq2) := fun r => r.cell m2
        have hC1 : ∀ r : Qs w6, Calls Try.prog 16 #[.agg #[.int .i64 n, .slice SA stash.length sc, .slice WA waves.length wq], .agg #[.int .i64 n2, .slice SA2 stash2.length sc2, .slice WA2 waves2.length wq2]] r.1 fun e w'' => e = .returned (.bool true) ∧ ∃ r' : Qs w6, w'' = r'.1 := fun r => r.calls (Same_plans ⟨n, SA, sc, stash, WA, wq, waves⟩ ⟨n2, SA2, sc2, stash2, WA2, wq2, waves2⟩ r.1 (HBX6.out.ok.up r.2) (HQX6.out.ok.up r.2) HQE.out.symm)
        have hC2 : ∀ r : Qs w6, Calls Try.prog 25 #[.agg #[.int .i64 n2, .slice SA2 stash2.length sc2, .slice WA2 waves2.length wq2]] r.1 fun e w'' => e = .returned (.int .i64 T) ∧ ∃ r' : Qs w6, w'' = r'.1 := fun r => by
          have h := MTotal_any ⟨n2, SA2, sc2, stash2, WA2, wq2, waves2⟩ r.1 (HQX6.out.ok.up r.2)
          simp only [HTQ.out] at h
          exact r.calls h
        have hC3 : ∀ r : Qs w6, Calls Try.prog 28 #[.agg #[.int .i64 n, .slice SA stash.length sc, .slice WA waves.length wq]] r.1 fun e w'' => e = .returned (.int .i64 T) ∧ ∃ r' : Qs w6, w'' = r'.1 := fun r => by
          have h := RefTotal_any ⟨n, SA, sc, stash, WA, wq, waves⟩ r.1 (HBX6.out.ok.up r.2)
          simp only [HT.out] at h
          exact r.calls h
        clear l0 l1 l2 m0 m1 m2
        refine wp_region_below (by kernel_rfl) (by kernel_rfl) ?_
        repeat (go_big_quiet_step (first | exact hC1 _ | exact hC2 _ | exact hC3 _))
        refine wpQuiet_nil ?_
        rintro _ ⟨r, rfl⟩
        have HB7 := Lib.hid (HB6.out.trans (r.2.mono (by omega)))
        have HBX7 := Lib.hid (HBX6.out.up r.2)
        have hv7 : pb < r.1.heap.size := by have := r.2.size; omega
        clear a0 a1 a2 b0 b1 b2 hC1 hC2 hC3 HBX6 HQX6 HB6
        generalize r.1 = w7 at *
        by_cases hs0 : size < 0
        · have hE1 : E = 1 := by rw [← HE.out]; exact checkV_arg (.inl hs0)
          subst hE1
          go_wp2_with fail
          go_ret
          obtain rfl := HPB.out
          exact ⟨rfl, HB7.out⟩
        · by_cases ht0 : tail < 0
          · have hE1 : E = 1 := by rw [← HE.out]; exact checkV_arg (.inr ht0)
            subst hE1
            go_wp2_with fail
            go_ret
            obtain rfl := HPB.out
            exact ⟨rfl, HB7.out⟩
          · obtain ⟨c0, c1, c2⟩ := HBX7.out.cells
            have HM := Lib.hid (May_any ⟨n, SA, sc, stash, WA, wq, waves⟩ size tail w7 HBX7.out.ok (by omega) (by omega) (by simp only; omega) (by simp only; omega))
            by_cases hpl : PlanP (PlV.pln ⟨n, SA, sc, stash, WA, wq, waves⟩) size tail
            · have hE1 : E = 0 := by rw [← HE.out]; exact checkV_ok (by omega) hpl
              have HPT := Lib.hid (planB_of hpl)
              subst hE1
              clear hpl
              go_wp2_with fail
              refine HM.out.mono ?_
              rw [HPT.out]
              rintro e w8 ⟨rfl, hb8⟩
              have HB8 := Lib.hid (HB7.out.trans (hb8.mono (by omega)))
              clear hb8
              go_wp2_with fail
              go_ret
              obtain rfl := HPB.out
              exact ⟨rfl, HB8.out⟩
            · have hE1 : E = 4 := by rw [← HE.out]; exact checkV_bad (by omega) hpl
              have HPT := Lib.hid (planB_not hpl)
              subst hE1
              clear hpl
              go_wp2_with fail
              refine HM.out.mono ?_
              rw [HPT.out]
              rintro e w8 ⟨rfl, hb8⟩
              have HB8 := Lib.hid (HB7.out.trans (hb8.mono (by omega)))
              clear hb8
              go_wp2_with fail
              go_ret
              obtain rfl := HPB.out
              exact ⟨rfl, HB8.out⟩
end Go.Proofs.Yteceephenfmdoaa
