/-
  KLawr: texts of one kind, one behind the other.
-/
import Derived.Test.YteceephenfmdoaaKMakes
import Derived.Test.YteceephenfmdoaaSC
/-
  What a made plan is: it may be run, and what running it leaves; plain.
-/
namespace Go.Proofs.Yteceephenfmdoaa
/-! ### Steps in an order that may be run -/
theorem PartP.less {size tail st : Int} {wr wr' : Int → Bool} {x : S} (h : PartP size tail st wr x) (hw : ∀ b, wr' b = true → wr b = true) : PartP size tail st wr' x :=
  ⟨h.1, h.2.1, fun h0 b h1 h2 => by
    have := h.2.2 h0 b h1 h2
    cases hb : wr' b with
    | false => rfl
    | true => rw [hw b hb] at this; cases this⟩
theorem StepP.less {n size tail st : Int} {wr wr' : Int → Bool} {s : Stp} (h : StepP n size tail st wr s) (hw : ∀ b, wr' b = true → wr b = true) : StepP n size tail st wr' s :=
  ⟨h.1, h.2.1, h.2.2.1, h.2.2.2.1, h.2.2.2.2.1, fun x hx => (h.2.2.2.2.2 x hx).less hw⟩
def OrdP (n size tail st : Int) : (Int → Bool) → List Stp → Prop
  | _, [] => True
  | wr, s :: l => StepP n size tail st wr s ∧ wr s.1 = false ∧ OrdP n size tail st (upd wr s.1 true) l
theorem upd_more (wr : Int → Bool) (k : Int) (b : Int) (h : wr b = true) : upd wr k true b = true := by
  unfold upd; split
  · rfl
  · exact h
theorem OrdP.split {n size tail st : Int} : ∀ (l m : List Stp) (wr : Int → Bool), OrdP n size tail st wr (l ++ m) → (∀ s ∈ l, StepP n size tail st wr s) ∧ FreshP wr l ∧ OrdP n size tail st (wrote wr l) m := by
  intro l
  induction l with
  | nil => intro m wr h; exact ⟨fun s hs => (by cases hs), trivial, h⟩
  | cons s l ih =>
    intro m wr h
    obtain ⟨h1, h2, h3⟩ := h
    obtain ⟨i1, i2, i3⟩ := ih m _ h3
    refine ⟨fun t ht => ?_, ⟨h2, i2⟩, i3⟩
    rcases List.mem_cons.1 ht with rfl | ht
    · exact h1
    · exact (i1 t ht).less (upd_more wr s.1)
theorem OrdP.waves {n size tail st : Int} {most : Nat} (hm : 1 ≤ most ∧ most ≤ 64) : ∀ (k : Nat) (l : List Stp) (wr : Int → Bool), l.length ≤ k → OrdP n size tail st wr l → WavesP n size tail st wr (chunks most l) := by
  intro k
  induction k with
  | zero =>
    intro l wr hl _
    have : l = [] := List.length_eq_zero_iff.1 (by omega)
    subst this
    exact trivial
  | succ k ih =>
    intro l wr hl h
    by_cases he : l = []
    · subst he; exact trivial
    · have hp : 0 < l.length := List.length_pos_iff.2 he
      rw [chunks_next hm.1 he]
      rw [← List.take_append_drop most l] at h
      obtain ⟨i1, i2, i3⟩ := OrdP.split _ _ _ h
      refine ⟨⟨by rw [List.length_take]; omega, by rw [List.length_take]; omega, i1, i2⟩, ih _ _ (by rw [List.length_drop]; omega) i3⟩
/-! ### The bytes of a step that was moved -/
theorem mem_sb {s : S} {y : Int} (h1 : s.at_ ≤ y) (h2 : y < s.at_ + s.len) : (s.src, y) ∈ Sc.sb s := by
  refine List.mem_map.2 ⟨(y - s.at_).toNat, List.mem_range.2 (by omega), ?_⟩
  simp only [Prod.mk.injEq, true_and]; omega
theorem mem_bts {l : List S} {s : S} (hs : s ∈ l) {y : Int} (h1 : s.at_ ≤ y) (h2 : y < s.at_ + s.len) : (s.src, y) ∈ Sc.bts l := List.mem_flatMap.2 ⟨s, hs, mem_sb h1 h2⟩
theorem bts_src {l : List S} {q : Int × Int} (h : q ∈ Sc.bts l) : ∃ s ∈ l, q.1 = s.src ∧ s.at_ ≤ q.2 ∧ q.2 < s.at_ + s.len := by
  obtain ⟨s, hs, hq⟩ := List.mem_flatMap.1 h
  exact ⟨s, hs, sb_mem s q hq⟩
theorem rnk_lt {stash : List R} (hR : Right stash) {p : Int} (hp : In stash p) : 0 ≤ rnk stash p ∧ rnk stash p < tot stash := by
  obtain ⟨r, hr, h1, h2⟩ := hp
  obtain ⟨j, hj⟩ := List.mem_iff_getElem?.1 hr
  rw [rnk_at stash (-1) j r p hR hj h1 h2]
  have hR' : RightF (-1) (stash.take j) := right_take hR j
  have h3 := (tot_le (stash.take j) (-1) hR').1
  have h4 : tot (stash.take (j + 1)) = tot (stash.take j) + (r.2 - r.1) := by rw [Sc.take_snoc stash j r hj, tot_snoc]
  have h5 : tot (stash.take (j + 1)) ≤ tot stash := by
    have h6 : ∀ (l : List R) (a : Int) (k : Nat), RightF a l → tot (l.take k) ≤ tot l := by
      intro l
      induction l with
      | nil => intro a k _; simp
      | cons s l ih =>
        intro a k h
        obtain ⟨x1, x2, x3⟩ := h
        cases k with
        | zero => have := (tot_le l s.2 x3).1; simp only [List.take_zero, tot]; omega
        | succ k => have := ih s.2 k x3; simp only [List.take_succ_cons, tot]; omega
    exact h6 stash (-1) _ hR
  omega
/-- What is known of a step ahead of which the blocks D are written. -/
structure Rdy (l : List S) (size : Int) (stash : List R) (D : Int → Prop) (t : Stp) : Prop where
  step : StepOf l t
  own : ¬ D t.1
  read : ∀ b, D b → b ∉ reads t.1 t.2 stash
theorem Rdy.byte {l : List S} {size : Int} {stash : List R} {D : Int → Prop} {t : Stp} (h : Rdy l size stash D t) {y : Int} (h0 : 0 ≤ y) (hy : Need t.2 y) (hn : ¬ In stash y) : ¬ D (y / 64) := fun hD =>
  h.read _ hD ((mem_reads _ _ _ _).2 ⟨fun e => h.own (e ▸ hD), y, ⟨h0, hy, hn⟩, rfl⟩)
section
variable {l : List S} {size tail : Int} {stash : List R}
theorem mem_blk {t : Stp} (h : StepOf l t) {q : Int × Int} (hq : q ∈ Sc.bts t.2) : q ∈ Sc.bts l := by
  rw [h.bt] at hq
  obtain ⟨i, _, _, hi⟩ := mem_blkB hq
  exact List.mem_of_getElem? hi
theorem mv_mem {t : Stp} (ht : StepOf l t) (hR : Right stash) (hT : tot stash ≤ 1048576) {q : Int × Int} (hq : q ∈ Sc.bts (movedL t.2 stash)) : ∃ q0 ∈ Sc.bts t.2, mvB stash q0 = q := by
  rw [(moved_ok ht.may hR hT).2.1] at hq
  exact List.mem_map.1 hq
theorem blkB_len (j : Nat) (h : Sc.Ok l) : ((blkB l j).length : Int) = min 64 (max 0 (Sc.tot l - 64 * (j : Int))) := by
  have := Sc.bts_length h
  unfold blkB
  rw [List.length_take, List.length_drop]
  omega
theorem moved_step (hT : TargetP l size) (hs : ∀ s ∈ l, s.src = 1 → s.at_ + s.len ≤ tail) (hR : Right stash) (hst : tot stash ≤ 1048576) {wr : Int → Bool} {D : Int → Prop} (hw : ∀ b, wr b = true → D b) {t : Stp} (h : Rdy l size stash D t) :
    StepP (Sc.tot l) size tail (tot stash) wr (movedS stash t) := by
  obtain ⟨m1, m2, m3, m4⟩ := moved_ok h.step.may hR hst
  have hlen := blkB_len t.1.toNat hT.may.1
  have hbl := Sc.bts_length h.step.may.1
  rw [h.step.bt] at hbl
  have hlo := h.step.lo
  have hhi := h.step.hi
  refine ⟨hlo, by simp only [movedS]; unfold blocksN; omega, m1, by simp only [movedS]; rw [m3], by simp only [movedS]; rw [m4]; omega, fun x hx => ?_⟩
  have hx0 : x ∈ movedL t.2 stash := hx
  have hok := m1.1 x hx0
  unfold Sc.okS at hok
  have last := mem_bts hx0 (y := x.at_ + x.len - 1) (by omega) (by omega)
  obtain ⟨q0, hq0, hq⟩ := mv_mem h.step hR hst last
  obtain ⟨s, hsl, e1, e2, e3⟩ := bts_src (mem_blk h.step hq0)
  have h2 := (hT.src s hsl)
  by_cases hin : q0.1 = 0 ∧ In stash q0.2
  · rw [mvB_yes hin] at hq
    simp only [Prod.mk.injEq] at hq
    have := rnk_lt hR hin.2
    unfold PartP
    rw [if_neg (by omega), if_pos (by omega)]
    exact ⟨by omega, by omega, fun h0 => by omega⟩
  · rw [mvB_no hin] at hq
    subst hq
    simp only at e1 e2 e3 hin
    have h4 : x.src = 1 → x.at_ + x.len ≤ tail := fun h1 => by have := hs s hsl (by omega); omega
    have h5 : x.src = 0 → x.at_ + x.len ≤ size := fun h1 => by have := h2.2 (by omega); omega
    unfold PartP
    refine ⟨?_, ?_, fun h0 b b1 b2 => ?_⟩
    · split
      · have := h4 (by assumption); omega
      · rw [if_neg (by omega)]; have := h5 (by omega); omega
    · split
      · have := h4 (by assumption); omega
      · rw [if_neg (by omega)]; have := h5 (by omega); omega
    · have hy := mem_bts hx0 (y := max x.at_ (64 * b)) (by omega) (by omega)
      obtain ⟨q1, hq1, hq⟩ := mv_mem h.step hR hst hy
      by_cases hin1 : q1.1 = 0 ∧ In stash q1.2
      · rw [mvB_yes hin1] at hq
        simp only [Prod.mk.injEq] at hq
        omega
      · rw [mvB_no hin1] at hq
        subst hq
        have hn : Need t.2 (max x.at_ (64 * b)) := by
          rw [bts_need h.step.may.1]
          rw [h0] at hq1
          exact hq1
        have hni : ¬ In stash (max x.at_ (64 * b)) := fun hi => hin1 ⟨h0, hi⟩
        have := h.byte (by omega) hn hni
        have e : (max x.at_ (64 * b)) / 64 = b := by omega
        rw [e] at this
        cases hb : wr b with
        | false => rfl
        | true => exact absurd (hw b hb) this
/-- Steps in an order in which none reads what was written. -/
structure Seq (l : List S) (stash : List R) (D : Int → Prop) (o : List Stp) : Prop where
  step : ∀ t ∈ o, StepOf l t
  nod : (o.map Prod.fst).Nodup
  own : ∀ t ∈ o, ¬ D t.1
  read : ∀ t ∈ o, ∀ b, D b → b ∉ reads t.1 t.2 stash
  pw : o.Pairwise fun s t => s.1 ∉ reads t.1 t.2 stash
theorem Seq.head {D : Int → Prop} {t : Stp} {o : List Stp} (h : Seq l stash D (t :: o)) : Rdy l size stash D t := ⟨h.step t (by simp), h.own t (by simp), h.read t (by simp)⟩
theorem Seq.rdy {D : Int → Prop} {o : List Stp} (h : Seq l stash D o) {t : Stp} (ht : t ∈ o) : Rdy l size stash D t := ⟨h.step t ht, h.own t ht, h.read t ht⟩
theorem Seq.drop {D : Int → Prop} {v o : List Stp} (h : Seq l stash D (v ++ o)) : Seq l stash (fun b => D b ∨ ∃ t ∈ v, t.1 = b) o := by
  have hn := h.nod
  rw [List.map_append, List.nodup_append] at hn
  have hp := List.pairwise_append.1 h.pw
  refine ⟨fun t ht => h.step t (by simp [ht]), hn.2.1, fun t ht => ?_, fun t ht b hb => ?_, hp.2.1⟩
  · rintro (h1 | ⟨s, hs, e⟩)
    · exact h.own t (by simp [ht]) h1
    · exact hn.2.2 s.1 (List.mem_map.2 ⟨s, hs, rfl⟩) t.1 (List.mem_map.2 ⟨t, ht, rfl⟩) e
  · rcases hb with h1 | ⟨s, hs, rfl⟩
    · exact h.read t (by simp [ht]) b h1
    · exact hp.2.2 s hs t ht
theorem Seq.take {D : Int → Prop} {v o : List Stp} (h : Seq l stash D (v ++ o)) : Seq l stash D v := by
  have hn := h.nod
  rw [List.map_append, List.nodup_append] at hn
  have hp := List.pairwise_append.1 h.pw
  exact ⟨fun t ht => h.step t (by simp [ht]), hn.1, fun t ht => h.own t (by simp [ht]), fun t ht => h.read t (by simp [ht]), hp.1⟩
theorem Seq.mono {D D' : Int → Prop} {o : List Stp} (h : Seq l stash D o) (hd : ∀ b, D' b → D b) : Seq l stash D' o :=
  ⟨h.step, h.nod, fun t ht h1 => h.own t ht (hd _ h1), fun t ht b hb => h.read t ht b (hd b hb), h.pw⟩
theorem ord_made (hT : TargetP l size) (hs : ∀ s ∈ l, s.src = 1 → s.at_ + s.len ≤ tail) (hR : Right stash) (hst : tot stash ≤ 1048576) : ∀ (o : List Stp) (D : Int → Prop) (wr : Int → Bool), Seq l stash D o → (∀ b, wr b = true → D b) → OrdP (Sc.tot l) size tail (tot stash) wr (o.map (movedS stash)) := by
  intro o
  induction o with
  | nil => intro D wr _ _; exact trivial
  | cons t o ih =>
    intro D wr h hw
    refine ⟨moved_step hT hs hR hst hw h.head, ?_, ih _ _ (Seq.drop (v := [t]) h) (fun b hb => ?_)⟩
    · cases hb : wr (movedS stash t).1 with
      | false => rfl
      | true => exact absurd (hw _ hb) (h.own t (by simp))
    · unfold upd at hb
      split at hb
      · exact .inr ⟨t, by simp, by simpa [movedS] using Eq.symm ‹_›⟩
      · exact .inl (hw b hb)
theorem MakeP.seq {o : List Stp} (h1 : ∀ s ∈ o, StepOf l s) (h2 : (o.map Prod.fst).Nodup) (h3 : o.Pairwise fun s t => s.1 ∉ reads t.1 t.2 stash) : Seq l stash (fun _ => False) o :=
  ⟨h1, h2, fun _ _ h => h, fun _ _ _ h => h.elim, h3⟩
/-- A made plan may be run. -/
theorem MakeP.plan (hT : TargetP l size) (_h0 : 0 ≤ size) (hb : Sc.tot l ≤ 1048576) {most : Nat} (hm : 1 ≤ most ∧ most ≤ 64) {p : Pln} (h : MakeP l most p) (hs : ∀ s ∈ l, s.src = 1 → s.at_ + s.len ≤ tail) : PlanP p size tail := by
  obtain ⟨o, stash, rfl, hR, hin, ho, hall, hnd, hpw, _, _⟩ := h
  have hto := stash_le hT.may.1 hR (fun x hx => (hin x hx).2)
  have hmi := mine_le_tot hT.may.1
  have hst : tot stash ≤ 1048576 := by omega
  refine ⟨Sc.tot_nonneg _ hT.may.1, hb, hR, fun r hr => (right_to hR (fun x hx => hT.need (hin x hx).2) r hr).2, ?_⟩
  exact OrdP.waves hm _ _ _ (Nat.le_refl _) (ord_made hT hs hR hst o (fun _ => False) _ (MakeP.seq ho hnd hpw) (fun b hb => by cases hb))
end
end Go.Proofs.Yteceephenfmdoaa

/-
  Running a plan, plain; what running a made plan leaves.
-/
namespace Go.Proofs.Yteceephenfmdoaa
/-- The bytes of a stash. -/
def stashB (orig : List Int) (stash : List R) : List Int := stash.flatMap fun r => (orig.drop r.1.toNat).take (r.2 - r.1).toNat
/-- A text laid into another at a place. -/
def splB (f : List Int) (at_ : Nat) (t : List Int) : List Int := f.take at_ ++ t ++ f.drop (at_ + t.length)
def putW (srcs : List (List Int)) (f : List Int) (s : Stp) : List Int := splB f (64 * s.1).toNat (Sc.textB srcs s.2)
def waveF (tail st : List Int) (f : List Int) (v : List Stp) : List Int := v.foldl (putW [f, tail, st]) f
def file0 (orig : List Int) (n : Int) : List Int := orig ++ List.replicate (n.toNat - orig.length) 0
def fileF (p : Pln) (orig tail : List Int) : List Int := p.waves.foldl (waveF tail (stashB orig p.stash)) (file0 orig p.size)
/-- What running a plan leaves. -/
def runF (p : Pln) (orig tail : List Int) : List Int := (fileF p orig tail).take p.size.toNat
theorem splB_len {f t : List Int} {a : Nat} (h : a + t.length ≤ f.length) : (splB f a t).length = f.length := by
  unfold splB
  simp only [List.length_append, List.length_take, List.length_drop]
  omega
theorem splB_get {f t : List Int} {a : Nat} (h : a + t.length ≤ f.length) (i : Nat) : (splB f a t)[i]? = if a ≤ i ∧ i < a + t.length then t[i - a]? else f[i]? := by
  unfold splB
  have h1 : (f.take a).length = a := by rw [List.length_take]; omega
  by_cases h2 : i < a
  · rw [if_neg (by omega), List.append_assoc, List.getElem?_append_left (by omega), List.getElem?_take_of_lt h2]
  · by_cases h3 : i < a + t.length
    · rw [if_pos (by omega), List.getElem?_append_left (by rw [List.length_append]; omega), List.getElem?_append_right (by omega), h1]
    · rw [if_neg (by omega), List.getElem?_append_right (by rw [List.length_append]; omega), List.getElem?_drop, List.length_append, h1]
      congr 1; omega
theorem file0_len (orig : List Int) (n : Int) : (file0 orig n).length = max orig.length n.toNat := by
  unfold file0
  rw [List.length_append, List.length_replicate]; omega
theorem file0_old {orig : List Int} (n : Int) {i : Nat} (h : i < orig.length) : (file0 orig n)[i]? = orig[i]? := by
  unfold file0
  rw [List.getElem?_append_left h]
theorem stash_len : ∀ (stash : List R) (a : Int) (orig : List Int), -1 ≤ a → RightF a stash → (∀ r ∈ stash, r.2 ≤ orig.length) → ((stashB orig stash).length : Int) = tot stash := by
  intro stash
  induction stash with
  | nil => intro a orig _ _ _; simp [stashB, tot]
  | cons r l ih =>
    intro a orig h0 hR h
    obtain ⟨h1, h2, h3⟩ := hR
    have h4 := h r (by simp)
    have h5 := ih r.2 orig (by omega) h3 (fun s hs => h s (by simp [hs]))
    unfold stashB at h5 ⊢
    rw [List.flatMap_cons, List.length_append, List.length_take, List.length_drop]
    simp only [tot]
    omega
theorem stash_get : ∀ (stash : List R) (a : Int) (orig : List Int) (p : Int), -1 ≤ a → RightF a stash → (∀ r ∈ stash, r.2 ≤ orig.length) → In stash p → (stashB orig stash)[(rnk stash p).toNat]? = orig[p.toNat]? := by
  intro stash
  induction stash with
  | nil => intro a orig p _ _ _ h; exact absurd h (in_nil p)
  | cons r l ih =>
    intro a orig p h0 hR h hp
    obtain ⟨h1, h2, h3⟩ := hR
    have h4 := h r (by simp)
    have hlen : (((orig.drop r.1.toNat).take (r.2 - r.1).toNat)).length = (r.2 - r.1).toNat := by rw [List.length_take, List.length_drop]; omega
    unfold stashB
    rw [List.flatMap_cons]
    simp only [rnk]
    by_cases hlt : p < r.2
    · have hlo : r.1 ≤ p := by
        obtain ⟨s, hs, s1, s2⟩ := hp
        rcases List.mem_cons.1 hs with rfl | hs
        · exact s1
        · have := right_mem h3 hs; omega
      rw [if_pos hlt, List.getElem?_append_left (by omega), List.getElem?_take_of_lt (by omega), List.getElem?_drop]
      congr 1; omega
    · have hp' : In l p := by
        obtain ⟨s, hs, s1, s2⟩ := hp
        rcases List.mem_cons.1 hs with rfl | hs
        · omega
        · exact ⟨s, hs, s1, s2⟩
      have hr := rnk_lt (stash := l) (by
        have : ∀ (m : List R) (a b : Int), b ≤ a → RightF a m → RightF b m := by
          intro m a b hab hm
          cases m with
          | nil => trivial
          | cons x m => obtain ⟨x1, x2, x3⟩ := hm; exact ⟨by omega, x2, x3⟩
        exact this l r.2 (-1) (by omega) h3) hp'
      have h5 := ih r.2 orig p (by omega) h3 (fun s hs => h s (by simp [hs])) hp'
      rw [if_neg hlt, List.getElem?_append_right (by omega), hlen, ← h5]
      unfold stashB
      congr 1; omega
section
variable {l : List S} {orig tail : List Int} {stash : List R}
/-- Of what the sources of a target have, each byte. -/
def wantB (l : List S) (orig tail : List Int) : List Int := Sc.textB [orig, tail] l
theorem has_target (hT : TargetP l orig.length) (hs : ∀ s ∈ l, s.src = 1 → s.at_ + s.len ≤ tail.length) : ∀ s ∈ l, Sc.Has [orig, tail] s := fun s h => by
  have h1 := hT.src s h
  have h2 := hT.may.1 s h
  unfold Sc.okS at h2
  have h3 := hs s h
  unfold Sc.Has Sc.srcOf
  have : s.src = 0 ∨ s.src = 1 := by omega
  rcases this with e | e
  · have := h1.2 e
    rw [e]
    refine ⟨by simp, ?_, ?_⟩ <;> (simp only [Int.toNat_zero, List.getD_cons_zero]; omega)
  · have := h3 e
    rw [e]
    refine ⟨by simp, ?_, ?_⟩ <;> (simp; omega)
theorem want_look (hT : TargetP l orig.length) (hs : ∀ s ∈ l, s.src = 1 → s.at_ + s.len ≤ tail.length) : wantB l orig tail = (Sc.bts l).map (Sc.look [orig, tail]) := Sc.textB_look (has_target hT hs) hT.may.1
theorem want_len (hT : TargetP l orig.length) (hs : ∀ s ∈ l, s.src = 1 → s.at_ + s.len ≤ tail.length) : ((wantB l orig tail).length : Int) = Sc.tot l := Sc.textB_length (has_target hT hs) hT.may.1
/-- What a step that is ready reads of a file, of which the blocks D alone were written. -/
theorem step_text (hT : TargetP l orig.length) (hs : ∀ s ∈ l, s.src = 1 → s.at_ + s.len ≤ tail.length) (hR : Right stash) (hst : tot stash ≤ 1048576) (hsz : ∀ r ∈ stash, r.2 ≤ orig.length) {D : Int → Prop} {f : List Int} (hf : orig.length ≤ f.length)
    (hD : ∀ i : Nat, i < orig.length → ¬ D ((i : Int) / 64) → f[i]? = orig[i]?) {t : Stp} (h : Rdy l orig.length stash D t) :
    (∀ s ∈ movedL t.2 stash, Sc.Has [f, tail, stashB orig stash] s) ∧ Sc.textB [f, tail, stashB orig stash] (movedL t.2 stash) = ((wantB l orig tail).drop (64 * t.1.toNat)).take 64 := by
  have hP := moved_step (wr := fun _ => false) hT hs hR hst (fun b hb => by cases hb) h
  have hsl := stash_len stash (-1) orig (by omega) hR hsz
  have hHas : ∀ s ∈ movedL t.2 stash, Sc.Has [f, tail, stashB orig stash] s := fun s hs' => by
    have h1 := hP.2.2.1.1 s hs'
    have h2 := hP.2.2.2.2.2 s hs'
    unfold Sc.okS at h1
    unfold PartP at h2
    obtain ⟨h3, h4, _⟩ := h2
    unfold Sc.Has Sc.srcOf
    have : s.src = 0 ∨ s.src = 1 ∨ s.src = 2 := by omega
    rcases this with e | e | e
    · rw [if_neg (by omega), if_neg (by omega)] at h3 h4
      rw [e]
      refine ⟨by simp, ?_, ?_⟩ <;> (simp; omega)
    · rw [if_pos e] at h3 h4
      rw [e]
      refine ⟨by simp, ?_, ?_⟩ <;> (simp; omega)
    · rw [if_neg (by omega), if_pos e] at h3 h4
      rw [e]
      refine ⟨by simp, ?_, ?_⟩ <;> (simp; omega)
  refine ⟨hHas, ?_⟩
  obtain ⟨m1, m2, m3, m4⟩ := moved_ok h.step.may hR hst
  rw [Sc.textB_look hHas m1.1, m2, List.map_map, want_look hT hs, ← List.map_drop, ← List.map_take]
  have e : ((Sc.bts l).drop (64 * t.1.toNat)).take 64 = Sc.bts t.2 := h.step.bt.symm
  rw [e]
  refine List.map_congr_left fun q hq => ?_
  obtain ⟨s, hs1, e1, e2, e3⟩ := bts_src (mem_blk h.step hq)
  have hs2 := hT.src s hs1
  have hs3 := hT.may.1 s hs1
  unfold Sc.okS at hs3
  obtain ⟨q1, q2⟩ := q
  simp only at e1 e2 e3
  show Sc.look _ (mvB stash (q1, q2)) = _
  by_cases hin : q1 = 0 ∧ In stash q2
  · have hr := rnk_lt hR hin.2
    have hg := stash_get stash (-1) orig q2 (by omega) hR hsz hin.2
    rw [mvB_yes hin, hin.1]
    unfold Sc.look
    simp only [List.getD_eq_getElem?_getD]
    simp [hg]
  · rw [mvB_no hin]
    have : q1 = 0 ∨ q1 = 1 := by omega
    rcases this with rfl | rfl
    · have hn : Need t.2 q2 := (bts_need h.step.may.1 q2).2 hq
      have hni : ¬ In stash q2 := fun hi => hin ⟨rfl, hi⟩
      have hb := h.byte (by omega) hn hni
      have hlt : q2.toNat < orig.length := by have := hs2.2 (by omega); omega
      have hfo := hD q2.toNat hlt (by
        have : ((q2.toNat : Nat) : Int) = q2 := by omega
        rw [this]; exact hb)
      unfold Sc.look
      simp [hfo]
    · unfold Sc.look
      simp
/-- A file of which the blocks D were written. -/
structure FileAt (l : List S) (orig tail : List Int) (n : Int) (D : Int → Prop) (f : List Int) : Prop where
  len : f.length = max orig.length n.toNat
  new : ∀ i : Nat, (i : Int) < n → D ((i : Int) / 64) → f[i]? = (wantB l orig tail)[i]?
  old : ∀ i : Nat, ¬ D ((i : Int) / 64) → f[i]? = (file0 orig n)[i]?
theorem FileAt.read {n : Int} {D : Int → Prop} {f : List Int} (h : FileAt l orig tail n D f) : ∀ i : Nat, i < orig.length → ¬ D ((i : Int) / 64) → f[i]? = orig[i]? := fun i hi hd => by rw [h.old i hd, file0_old n hi]
theorem FileAt.congr {n : Int} {D D' : Int → Prop} {f : List Int} (h : FileAt l orig tail n D f) (hd : ∀ b, D b ↔ D' b) : FileAt l orig tail n D' f := ⟨h.len, fun i hi hD => h.new i hi ((hd _).2 hD), fun i hD => h.old i (fun h1 => hD ((hd _).1 h1))⟩
theorem FileAt.put (hT : TargetP l orig.length) (hs : ∀ s ∈ l, s.src = 1 → s.at_ + s.len ≤ tail.length) {D : Int → Prop} {f : List Int} (h : FileAt l orig tail (Sc.tot l) D f) {t : Stp} (ht : StepOf l t) {x : List Int} (hx : x = ((wantB l orig tail).drop (64 * t.1.toNat)).take 64) :
    FileAt l orig tail (Sc.tot l) (fun b => D b ∨ t.1 = b) (splB f (64 * t.1).toNat x) := by
  have hw := want_len hT hs
  have hlo := ht.lo
  have hhi := ht.hi
  have hfl := h.len
  have hxl : x.length = min 64 ((wantB l orig tail).length - 64 * t.1.toNat) := by rw [hx, List.length_take, List.length_drop]
  have hfit : (64 * t.1).toNat + x.length ≤ f.length := by omega
  refine ⟨by rw [splB_len hfit]; exact hfl, fun i hi hD => ?_, fun i hD => ?_⟩
  · rw [splB_get hfit]
    by_cases hin : (64 * t.1).toNat ≤ i ∧ i < (64 * t.1).toNat + x.length
    · rw [if_pos hin, hx, List.getElem?_take_of_lt (by omega), List.getElem?_drop]
      congr 1; omega
    · rw [if_neg hin]
      refine h.new i hi ?_
      rcases hD with h1 | h1
      · exact h1
      · exfalso; omega
  · rw [splB_get hfit]
    rw [if_neg (by
      rintro ⟨h1, h2⟩
      exact hD (.inr (by omega)))]
    exact h.old i (fun h1 => hD (.inl h1))
/-- One wave. -/
theorem wave_made (hT : TargetP l orig.length) (hs : ∀ s ∈ l, s.src = 1 → s.at_ + s.len ≤ tail.length) (hR : Right stash) (hst : tot stash ≤ 1048576) (hsz : ∀ r ∈ stash, r.2 ≤ orig.length) {D : Int → Prop} {f : List Int} (h : FileAt l orig tail (Sc.tot l) D f) {v : List Stp} (hv : Seq l stash D v) :
    FileAt l orig tail (Sc.tot l) (fun b => D b ∨ ∃ t ∈ v, t.1 = b) (waveF tail (stashB orig stash) f (v.map (movedS stash))) := by
  have hfl : orig.length ≤ f.length := by have := h.len; omega
  have htx : ∀ t ∈ v, Sc.textB [f, tail, stashB orig stash] (movedL t.2 stash) = ((wantB l orig tail).drop (64 * t.1.toNat)).take 64 := fun t ht => (step_text hT hs hR hst hsz hfl h.read (hv.rdy ht)).2
  have hst' : ∀ t ∈ v, StepOf l t := hv.step
  have key : ∀ (v : List Stp) (D : Int → Prop) (g : List Int), (∀ t ∈ v, Sc.textB [f, tail, stashB orig stash] (movedL t.2 stash) = ((wantB l orig tail).drop (64 * t.1.toNat)).take 64) → (∀ t ∈ v, StepOf l t) → FileAt l orig tail (Sc.tot l) D g →
      FileAt l orig tail (Sc.tot l) (fun b => D b ∨ ∃ t ∈ v, t.1 = b) ((v.map (movedS stash)).foldl (putW [f, tail, stashB orig stash]) g) := by
    intro v
    induction v with
    | nil => intro D g _ _ hg; exact hg.congr fun b => by simp
    | cons t v ih =>
      intro D g h1 h2 hg
      have h3 := FileAt.put hT hs hg (h2 t (by simp)) (h1 t (by simp))
      have h4 := ih _ _ (fun t ht => h1 t (by simp [ht])) (fun t ht => h2 t (by simp [ht])) h3
      refine h4.congr fun b => ?_
      simp only [List.mem_cons, exists_eq_or_imp, or_assoc]
  exact key v D f htx hst' h
/-- All waves. -/
theorem waves_made (hT : TargetP l orig.length) (hs : ∀ s ∈ l, s.src = 1 → s.at_ + s.len ≤ tail.length) (hR : Right stash) (hst : tot stash ≤ 1048576) (hsz : ∀ r ∈ stash, r.2 ≤ orig.length) {most : Nat} (hm : 1 ≤ most) : ∀ (k : Nat) (o : List Stp) (D : Int → Prop) (f : List Int), o.length ≤ k → Seq l stash D o → FileAt l orig tail (Sc.tot l) D f →
    FileAt l orig tail (Sc.tot l) (fun b => D b ∨ ∃ t ∈ o, t.1 = b) ((chunks most (o.map (movedS stash))).foldl (waveF tail (stashB orig stash)) f) := by
  intro k
  induction k with
  | zero =>
    intro o D f ho _ hf
    have : o = [] := List.length_eq_zero_iff.1 (by omega)
    subst this
    exact hf.congr fun b => by simp
  | succ k ih =>
    intro o D f ho hq hf
    by_cases he : o = []
    · subst he; exact hf.congr fun b => by simp
    · have hp : 0 < o.length := List.length_pos_iff.2 he
      have hne : o.map (movedS stash) ≠ [] := by simpa using he
      rw [chunks_next hm hne, List.foldl_cons, ← List.map_take, ← List.map_drop]
      have hq' := hq
      rw [← List.take_append_drop most o] at hq'
      have h1 := wave_made hT hs hR hst hsz hf hq'.take
      have h2 := ih (o.drop most) _ _ (by rw [List.length_drop]; omega) hq'.drop h1
      refine h2.congr fun b => ?_
      have e : ∀ t, t ∈ o ↔ t ∈ o.take most ∨ t ∈ o.drop most := fun t => by rw [← List.mem_append, List.take_append_drop]
      constructor
      · rintro ((h | ⟨t, ht, h⟩) | ⟨t, ht, h⟩)
        · exact .inl h
        · exact .inr ⟨t, (e t).2 (.inl ht), h⟩
        · exact .inr ⟨t, (e t).2 (.inr ht), h⟩
      · rintro (h | ⟨t, ht, h⟩)
        · exact .inl (.inl h)
        · rcases (e t).1 ht with ht | ht
          · exact .inl (.inr ⟨t, ht, h⟩)
          · exact .inr ⟨t, ht, h⟩
theorem FileAt.zero (l : List S) (orig tail : List Int) (n : Int) : FileAt l orig tail n (fun _ => False) (file0 orig n) := ⟨file0_len _ _, fun _ _ h => h.elim, fun _ _ => rfl⟩
/-- Where all blocks were written but those that stay, the text is there. -/
theorem FileAt.done (hT : TargetP l orig.length) (hs : ∀ s ∈ l, s.src = 1 → s.at_ + s.len ≤ tail.length) {D : Int → Prop} {f : List Int} (h : FileAt l orig tail (Sc.tot l) D f) (hall : ∀ j : Nat, 64 * (j : Int) < Sc.tot l → D j ∨ Stays l j) : f.take (Sc.tot l).toNat = wantB l orig tail := by
  have hw := want_len hT hs
  have hfl := h.len
  apply List.ext_getElem?
  intro i
  by_cases hi : i < (Sc.tot l).toNat
  · rw [List.getElem?_take_of_lt hi]
    have hj := hall (i / 64) (by omega)
    have ej : ((i / 64 : Nat) : Int) = (i : Int) / 64 := by omega
    by_cases hD : D ((i : Int) / 64)
    · exact h.new i (by omega) hD
    · rw [h.old i hD]
      rcases hj with h1 | h1
      · exact absurd (ej ▸ h1) hD
      · -- the byte stays where it is
        have hb : (Sc.bts l)[i]? = some (0, (i : Int)) := by
          unfold Stays at h1
          have h2 : (blkB l (i / 64))[i % 64]? = (Sc.bts l)[i]? := by
            unfold blkB
            rw [List.getElem?_take_of_lt (by omega), List.getElem?_drop]
            congr 1; omega
          rw [← h2, h1]
          unfold Sc.sb
          rw [List.getElem?_map, List.getElem?_range (by simp only; omega)]
          simp only [Option.map_some, Option.some.injEq, Prod.mk.injEq, true_and]
          omega
        have hn : Need l (i : Int) := (bts_need hT.may.1 _).2 (List.mem_of_getElem? hb)
        have hlt : i < orig.length := by have := hT.need hn; omega
        rw [file0_old _ hlt, want_look hT hs, List.getElem?_map, hb]
        simp [Sc.look, List.getElem?_eq_getElem hlt]
  · rw [List.getElem?_eq_none (by rw [List.length_take]; omega), List.getElem?_eq_none (by omega)]
/-- What running a made plan leaves: the target's text. -/
theorem MakeP.run (hT : TargetP l orig.length) (hs : ∀ s ∈ l, s.src = 1 → s.at_ + s.len ≤ tail.length) (hb : Sc.tot l ≤ 1048576) {most : Nat} (hm : 1 ≤ most) {p : Pln} (h : MakeP l most p) : runF p orig tail = wantB l orig tail := by
  obtain ⟨o, stash, rfl, hR, hin, ho, hall, hnd, hpw, _, _⟩ := h
  have hto := stash_le hT.may.1 hR (fun x hx => (hin x hx).2)
  have hmi := mine_le_tot hT.may.1
  have hst : tot stash ≤ 1048576 := by omega
  have hsz : ∀ r ∈ stash, r.2 ≤ (orig.length : Int) := fun r hr => (right_to hR (fun x hx => hT.need (hin x hx).2) r hr).2
  have h1 := waves_made hT hs hR hst hsz hm _ o _ _ (Nat.le_refl _) (MakeP.seq (stash := stash) ho hnd hpw) (FileAt.zero l orig tail _)
  unfold runF fileF
  exact FileAt.done hT hs h1 (fun j hj => (hall j hj).imp (fun ⟨t, ht, e⟩ => .inr ⟨t, ht, e⟩) id)
end
end Go.Proofs.Yteceephenfmdoaa
