/-
  What a made plan is: it may be run, and what running it leaves; plain.
-/
import Derived.Test.YteceephenfmdoaaKMakeb
import Derived.Test.YteceephenfmdoaaSC
namespace Go.Proofs.Yteceephenfmdoaa
/-! ### Steps in an order that may be run -/
theorem PartP.less {size tail st : Int} {wr wr' : Int → Bool} {x : S} (h : PartP size tail st wr x) (hw : ∀ b, wr' b = true → wr b = true) : PartP size tail st wr' x :=
  ⟨h.1, h.2.1, fun h0 b h1 h2 => by
    have := h.2.2 h0 b h1 h2
    cases hb : wr' b with
    | false => rfl
    | true => rw [hw b hb] at this; cases this⟩
theorem StepP.less {n size tail st : Int} {wr wr' : Int → Bool} {s : Stp} (h : StepP n size tail st wr s) (hw : ∀ b, wr' b = true → wr b = true) : StepP n size tail st wr' s :=
  ⟨h.1, h.2.1, h.2.2.1, h.2.2.2.1, h.2.2.2.2.1, fun x hx => (h.2.2.2.2.2 x hx).less hw⟩
def OrdP (n size tail st : Int) : (Int → Bool) → List Stp → Prop
  | _, [] => True
  | wr, s :: l => StepP n size tail st wr s ∧ wr s.1 = false ∧ OrdP n size tail st (upd wr s.1 true) l
theorem upd_more (wr : Int → Bool) (k : Int) (b : Int) (h : wr b = true) : upd wr k true b = true := by
  unfold upd; split
  · rfl
  · exact h
theorem OrdP.split {n size tail st : Int} : ∀ (l m : List Stp) (wr : Int → Bool), OrdP n size tail st wr (l ++ m) → (∀ s ∈ l, StepP n size tail st wr s) ∧ FreshP wr l ∧ OrdP n size tail st (wrote wr l) m := by
  intro l
  induction l with
  | nil => intro m wr h; exact ⟨fun s hs => (by cases hs), trivial, h⟩
  | cons s l ih =>
    intro m wr h
    obtain ⟨h1, h2, h3⟩ := h
    obtain ⟨i1, i2, i3⟩ := ih m _ h3
    refine ⟨fun t ht => ?_, ⟨h2, i2⟩, i3⟩
    rcases List.mem_cons.1 ht with rfl | ht
    · exact h1
    · exact (i1 t ht).less (upd_more wr s.1)
theorem OrdP.waves {n size tail st : Int} {most : Nat} (hm : 1 ≤ most ∧ most ≤ 64) : ∀ (k : Nat) (l : List Stp) (wr : Int → Bool), l.length ≤ k → OrdP n size tail st wr l → WavesP n size tail st wr (chunks most l) := by
  intro k
  induction k with
  | zero =>
    intro l wr hl _
    have : l = [] := List.length_eq_zero_iff.1 (by omega)
    subst this
    exact trivial
  | succ k ih =>
    intro l wr hl h
    by_cases he : l = []
    · subst he; exact trivial
    · have hp : 0 < l.length := List.length_pos_iff.2 he
      rw [chunks_next hm.1 he]
      rw [← List.take_append_drop most l] at h
      obtain ⟨i1, i2, i3⟩ := OrdP.split _ _ _ h
      refine ⟨⟨by rw [List.length_take]; omega, by rw [List.length_take]; omega, i1, i2⟩, ih _ _ (by rw [List.length_drop]; omega) i3⟩
/-! ### The bytes of a step that was moved -/
theorem mem_sb {s : S} {y : Int} (h1 : s.at_ ≤ y) (h2 : y < s.at_ + s.len) : (s.src, y) ∈ Sc.sb s := by
  refine List.mem_map.2 ⟨(y - s.at_).toNat, List.mem_range.2 (by omega), ?_⟩
  simp only [Prod.mk.injEq, true_and]; omega
theorem mem_bts {l : List S} {s : S} (hs : s ∈ l) {y : Int} (h1 : s.at_ ≤ y) (h2 : y < s.at_ + s.len) : (s.src, y) ∈ Sc.bts l := List.mem_flatMap.2 ⟨s, hs, mem_sb h1 h2⟩
theorem bts_src {l : List S} {q : Int × Int} (h : q ∈ Sc.bts l) : ∃ s ∈ l, q.1 = s.src ∧ s.at_ ≤ q.2 ∧ q.2 < s.at_ + s.len := by
  obtain ⟨s, hs, hq⟩ := List.mem_flatMap.1 h
  exact ⟨s, hs, sb_mem s q hq⟩
theorem rnk_lt {stash : List R} (hR : Right stash) {p : Int} (hp : In stash p) : 0 ≤ rnk stash p ∧ rnk stash p < tot stash := by
  obtain ⟨r, hr, h1, h2⟩ := hp
  obtain ⟨j, hj⟩ := List.mem_iff_getElem?.1 hr
  rw [rnk_at stash (-1) j r p hR hj h1 h2]
  have hR' : RightF (-1) (stash.take j) := right_take hR j
  have h3 := (tot_le (stash.take j) (-1) hR').1
  have h4 : tot (stash.take (j + 1)) = tot (stash.take j) + (r.2 - r.1) := by rw [Sc.take_snoc stash j r hj, tot_snoc]
  have h5 : tot (stash.take (j + 1)) ≤ tot stash := by
    have h6 : ∀ (l : List R) (a : Int) (k : Nat), RightF a l → tot (l.take k) ≤ tot l := by
      intro l
      induction l with
      | nil => intro a k _; simp
      | cons s l ih =>
        intro a k h
        obtain ⟨x1, x2, x3⟩ := h
        cases k with
        | zero => have := (tot_le l s.2 x3).1; simp only [List.take_zero, tot]; omega
        | succ k => have := ih s.2 k x3; simp only [List.take_succ_cons, tot]; omega
    exact h6 stash (-1) _ hR
  omega
/-- What is known of a step ahead of which the blocks D are written. -/
structure Rdy (l : List S) (size : Int) (stash : List R) (D : Int → Prop) (t : Stp) : Prop where
  step : StepOf l t
  own : ¬ D t.1
  read : ∀ b, D b → b ∉ reads t.1 t.2 stash
theorem Rdy.byte {l : List S} {size : Int} {stash : List R} {D : Int → Prop} {t : Stp} (h : Rdy l size stash D t) {y : Int} (h0 : 0 ≤ y) (hy : Need t.2 y) (hn : ¬ In stash y) : ¬ D (y / 64) := fun hD =>
  h.read _ hD ((mem_reads _ _ _ _).2 ⟨fun e => h.own (e ▸ hD), y, ⟨h0, hy, hn⟩, rfl⟩)
section
variable {l : List S} {size tail : Int} {stash : List R}
theorem mem_blk {t : Stp} (h : StepOf l t) {q : Int × Int} (hq : q ∈ Sc.bts t.2) : q ∈ Sc.bts l := by
  rw [h.bt] at hq
  obtain ⟨i, _, _, hi⟩ := mem_blkB hq
  exact List.mem_of_getElem? hi
theorem mv_mem {t : Stp} (ht : StepOf l t) (hR : Right stash) (hT : tot stash ≤ 1048576) {q : Int × Int} (hq : q ∈ Sc.bts (movedL t.2 stash)) : ∃ q0 ∈ Sc.bts t.2, mvB stash q0 = q := by
  rw [(moved_ok ht.may hR hT).2.1] at hq
  exact List.mem_map.1 hq
theorem blkB_len (j : Nat) (h : Sc.Ok l) : ((blkB l j).length : Int) = min 64 (max 0 (Sc.tot l - 64 * (j : Int))) := by
  have := Sc.bts_length h
  unfold blkB
  rw [List.length_take, List.length_drop]
  omega
theorem moved_step (hT : TargetP l size) (hs : ∀ s ∈ l, s.src = 1 → s.at_ + s.len ≤ tail) (hR : Right stash) (hst : tot stash ≤ 1048576) {wr : Int → Bool} {D : Int → Prop} (hw : ∀ b, wr b = true → D b) {t : Stp} (h : Rdy l size stash D t) :
    StepP (Sc.tot l) size tail (tot stash) wr (movedS stash t) := by
  obtain ⟨m1, m2, m3, m4⟩ := moved_ok h.step.may hR hst
  have hlen := blkB_len t.1.toNat hT.may.1
  have hbl := Sc.bts_length h.step.may.1
  rw [h.step.bt] at hbl
  have hlo := h.step.lo
  have hhi := h.step.hi
  refine ⟨hlo, by simp only [movedS]; unfold blocksN; omega, m1, by simp only [movedS]; rw [m3], by simp only [movedS]; rw [m4]; omega, fun x hx => ?_⟩
  have hx0 : x ∈ movedL t.2 stash := hx
  have hok := m1.1 x hx0
  unfold Sc.okS at hok
  have last := mem_bts hx0 (y := x.at_ + x.len - 1) (by omega) (by omega)
  obtain ⟨q0, hq0, hq⟩ := mv_mem h.step hR hst last
  obtain ⟨s, hsl, e1, e2, e3⟩ := bts_src (mem_blk h.step hq0)
  have h2 := (hT.src s hsl)
  by_cases hin : q0.1 = 0 ∧ In stash q0.2
  · rw [mvB_yes hin] at hq
    simp only [Prod.mk.injEq] at hq
    have := rnk_lt hR hin.2
    unfold PartP
    rw [if_neg (by omega), if_pos (by omega)]
    exact ⟨by omega, by omega, fun h0 => by omega⟩
  · rw [mvB_no hin] at hq
    subst hq
    simp only at e1 e2 e3 hin
    have h4 : x.src = 1 → x.at_ + x.len ≤ tail := fun h1 => by have := hs s hsl (by omega); omega
    have h5 : x.src = 0 → x.at_ + x.len ≤ size := fun h1 => by have := h2.2 (by omega); omega
    unfold PartP
    refine ⟨?_, ?_, fun h0 b b1 b2 => ?_⟩
    · split
      · have := h4 (by assumption); omega
      · rw [if_neg (by omega)]; have := h5 (by omega); omega
    · split
      · have := h4 (by assumption); omega
      · rw [if_neg (by omega)]; have := h5 (by omega); omega
    · have hy := mem_bts hx0 (y := max x.at_ (64 * b)) (by omega) (by omega)
      obtain ⟨q1, hq1, hq⟩ := mv_mem h.step hR hst hy
      by_cases hin1 : q1.1 = 0 ∧ In stash q1.2
      · rw [mvB_yes hin1] at hq
        simp only [Prod.mk.injEq] at hq
        omega
      · rw [mvB_no hin1] at hq
        subst hq
        have hn : Need t.2 (max x.at_ (64 * b)) := by
          rw [bts_need h.step.may.1]
          rw [h0] at hq1
          exact hq1
        have hni : ¬ In stash (max x.at_ (64 * b)) := fun hi => hin1 ⟨h0, hi⟩
        have := h.byte (by omega) hn hni
        have e : (max x.at_ (64 * b)) / 64 = b := by omega
        rw [e] at this
        cases hb : wr b with
        | false => rfl
        | true => exact absurd (hw b hb) this
/-- Steps in an order in which none reads what was written. -/
structure Seq (l : List S) (stash : List R) (D : Int → Prop) (o : List Stp) : Prop where
  step : ∀ t ∈ o, StepOf l t
  nod : (o.map Prod.fst).Nodup
  own : ∀ t ∈ o, ¬ D t.1
  read : ∀ t ∈ o, ∀ b, D b → b ∉ reads t.1 t.2 stash
  pw : o.Pairwise fun s t => s.1 ∉ reads t.1 t.2 stash
theorem Seq.head {D : Int → Prop} {t : Stp} {o : List Stp} (h : Seq l stash D (t :: o)) : Rdy l size stash D t := ⟨h.step t (by simp), h.own t (by simp), h.read t (by simp)⟩
theorem Seq.rdy {D : Int → Prop} {o : List Stp} (h : Seq l stash D o) {t : Stp} (ht : t ∈ o) : Rdy l size stash D t := ⟨h.step t ht, h.own t ht, h.read t ht⟩
theorem Seq.drop {D : Int → Prop} {v o : List Stp} (h : Seq l stash D (v ++ o)) : Seq l stash (fun b => D b ∨ ∃ t ∈ v, t.1 = b) o := by
  have hn := h.nod
  rw [List.map_append, List.nodup_append] at hn
  have hp := List.pairwise_append.1 h.pw
  refine ⟨fun t ht => h.step t (by simp [ht]), hn.2.1, fun t ht => ?_, fun t ht b hb => ?_, hp.2.1⟩
  · rintro (h1 | ⟨s, hs, e⟩)
    · exact h.own t (by simp [ht]) h1
    · exact hn.2.2 s.1 (List.mem_map.2 ⟨s, hs, rfl⟩) t.1 (List.mem_map.2 ⟨t, ht, rfl⟩) e
  · rcases hb with h1 | ⟨s, hs, rfl⟩
    · exact h.read t (by simp [ht]) b h1
    · exact hp.2.2 s hs t ht
theorem Seq.take {D : Int → Prop} {v o : List Stp} (h : Seq l stash D (v ++ o)) : Seq l stash D v := by
  have hn := h.nod
  rw [List.map_append, List.nodup_append] at hn
  have hp := List.pairwise_append.1 h.pw
  exact ⟨fun t ht => h.step t (by simp [ht]), hn.1, fun t ht => h.own t (by simp [ht]), fun t ht => h.read t (by simp [ht]), hp.1⟩
theorem Seq.mono {D D' : Int → Prop} {o : List Stp} (h : Seq l stash D o) (hd : ∀ b, D' b → D b) : Seq l stash D' o :=
  ⟨h.step, h.nod, fun t ht h1 => h.own t ht (hd _ h1), fun t ht b hb => h.read t ht b (hd b hb), h.pw⟩
theorem ord_made (hT : TargetP l size) (hs : ∀ s ∈ l, s.src = 1 → s.at_ + s.len ≤ tail) (hR : Right stash) (hst : tot stash ≤ 1048576) : ∀ (o : List Stp) (D : Int → Prop) (wr : Int → Bool), Seq l stash D o → (∀ b, wr b = true → D b) → OrdP (Sc.tot l) size tail (tot stash) wr (o.map (movedS stash)) := by
  intro o
  induction o with
  | nil => intro D wr _ _; exact trivial
  | cons t o ih =>
    intro D wr h hw
    refine ⟨moved_step hT hs hR hst hw h.head, ?_, ih _ _ (Seq.drop (v := [t]) h) (fun b hb => ?_)⟩
    · cases hb : wr (movedS stash t).1 with
      | false => rfl
      | true => exact absurd (hw _ hb) (h.own t (by simp))
    · unfold upd at hb
      split at hb
      · exact .inr ⟨t, by simp, by simpa [movedS] using Eq.symm ‹_›⟩
      · exact .inl (hw b hb)
theorem MakeP.seq {o : List Stp} (h1 : ∀ s ∈ o, StepOf l s) (h2 : (o.map Prod.fst).Nodup) (h3 : o.Pairwise fun s t => s.1 ∉ reads t.1 t.2 stash) : Seq l stash (fun _ => False) o :=
  ⟨h1, h2, fun _ _ h => h, fun _ _ _ h => h.elim, h3⟩
/-- A made plan may be run. -/
theorem MakeP.plan (hT : TargetP l size) (_h0 : 0 ≤ size) (hb : Sc.tot l ≤ 1048576) {most : Nat} (hm : 1 ≤ most ∧ most ≤ 64) {p : Pln} (h : MakeP l most p) (hs : ∀ s ∈ l, s.src = 1 → s.at_ + s.len ≤ tail) : PlanP p size tail := by
  obtain ⟨o, stash, rfl, hR, hin, ho, hall, hnd, hpw, _, _⟩ := h
  have hto := stash_le hT.may.1 hR (fun x hx => (hin x hx).2)
  have hmi := mine_le_tot hT.may.1
  have hst : tot stash ≤ 1048576 := by omega
  refine ⟨Sc.tot_nonneg _ hT.may.1, hb, hR, fun r hr => (right_to hR (fun x hx => hT.need (hin x hx).2) r hr).2, ?_⟩
  exact OrdP.waves hm _ _ _ (Nat.le_refl _) (ord_made hT hs hR hst o (fun _ => False) _ (MakeP.seq ho hnd hpw) (fun b hb => by cases hb))
end
end Go.Proofs.Yteceephenfmdoaa
