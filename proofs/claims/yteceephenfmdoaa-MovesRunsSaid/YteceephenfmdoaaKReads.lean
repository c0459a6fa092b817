/-
  What a list of scraps reads of the original: its ranges, its blocks. Plain.
-/
import Derived.Test.YteceephenfmdoaaMPlan
namespace Go.Proofs.Yteceephenfmdoaa
/-- The bytes of the original that a list of scraps has. -/
def Need (l : List S) (x : Int) : Prop := ∃ s ∈ l, s.src = 0 ∧ s.at_ ≤ x ∧ x < s.at_ + s.len
def rngS (s : S) : List R := if s.src = 0 then [(s.at_, s.at_ + s.len)] else []
def needL (l : List S) : List R := l.flatMap rngS
theorem needL_snoc (l : List S) (s : S) : needL (l ++ [s]) = needL l ++ rngS s := by simp [needL]
theorem needL_append (l m : List S) : needL (l ++ m) = needL l ++ needL m := by simp [needL]
theorem in_needL (l : List S) (x : Int) : In (needL l) x ↔ Need l x := by
  constructor
  · rintro ⟨r, hr, h1, h2⟩
    obtain ⟨s, hs, hr⟩ := List.mem_flatMap.1 hr
    unfold rngS at hr
    split at hr
    · simp at hr; subst hr; exact ⟨s, hs, by assumption, h1, h2⟩
    · cases hr
  · rintro ⟨s, hs, h0, h1, h2⟩
    exact ⟨(s.at_, s.at_ + s.len), List.mem_flatMap.2 ⟨s, hs, by simp [rngS, h0]⟩, h1, h2⟩
theorem rngS_len (s : S) : (rngS s).length ≤ 1 := by unfold rngS; split <;> simp
theorem needL_len (l : List S) : (needL l).length ≤ l.length := by
  induction l with
  | nil => simp [needL]
  | cons a l ih => have := rngS_len a; simp only [needL, List.flatMap_cons, List.length_append, List.length_cons] at *; omega
theorem needL_ir {l : List S} (h : Sc.Ok l) : IR (needL l) := by
  intro r hr
  obtain ⟨s, hs, hr⟩ := List.mem_flatMap.1 hr
  have h0 := h s hs
  unfold Sc.okS at h0
  unfold rngS at hr
  split at hr
  · simp at hr; subst hr; unfold I64; simp only; omega
  · cases hr
/-- The blocks of a range. -/
def cntR (r : R) : Nat := ((r.2 + 63) / 64 - r.1 / 64).toNat
def blocksR (r : R) : List Int := (List.range (cntR r)).map fun (i : Nat) => r.1 / 64 + (i : Int)
theorem blocksR_len (r : R) : (blocksR r).length = cntR r := by simp [blocksR]
theorem blocksR_get (r : R) (j : Nat) (hj : j < cntR r) : (blocksR r)[j]? = some (r.1 / 64 + (j : Int)) := by
  simp [blocksR, hj]
theorem mem_blocksR (r : R) (b : Int) : b ∈ blocksR r ↔ r.1 / 64 ≤ b ∧ b * 64 < r.2 := by
  unfold blocksR cntR
  rw [List.mem_map]
  constructor
  · rintro ⟨i, hi, rfl⟩
    have := List.mem_range.1 hi
    omega
  · rintro ⟨h1, h2⟩
    exact ⟨(b - r.1 / 64).toNat, List.mem_range.2 (by omega), by omega⟩
/-- One block more, if it is another one than the last and than the own. -/
def addB (own : Int) (o : List Int) (b : Int) : List Int := if b ≠ own ∧ o.getLast? ≠ some b then o ++ [b] else o
def readsL (own : Int) (l : List R) : List Int := (l.flatMap blocksR).foldl (addB own) []
theorem last_of (o : List Int) (b : Int) (hs : o.Pairwise (· < ·)) (hb : b ∈ o) (hle : ∀ y ∈ o, y ≤ b) : o.getLast? = some b := by
  rcases Sc.snoc_cases o with rfl | ⟨L, t, rfl⟩
  · cases hb
  · have ht := hle t (by simp)
    rw [List.pairwise_append] at hs
    rcases List.mem_append.1 hb with h | h
    · have := hs.2.2 b h t (by simp); omega
    · simp at h; subst h; simp
theorem addB_ok (own b : Int) (o : List Int) (hs : o.Pairwise (· < ·)) (hle : ∀ y ∈ o, y ≤ b) : (addB own o b).Pairwise (· < ·) ∧ (∀ c, c ∈ addB own o b ↔ c ∈ o ∨ (c = b ∧ c ≠ own)) ∧ ∀ y ∈ addB own o b, y ≤ b := by
  unfold addB
  split
  · rename_i h
    refine ⟨?_, fun c => ?_, fun y hy => ?_⟩
    · rw [List.pairwise_append]
      refine ⟨hs, by simp, fun y hy z hz => ?_⟩
      simp at hz; subst hz
      have h1 := hle y hy
      have h2 : y ≠ z := fun e => h.2 (last_of o z hs (e ▸ hy) hle)
      omega
    · simp only [List.mem_append, List.mem_singleton]
      constructor
      · rintro (h1 | h1)
        · exact .inl h1
        · exact .inr ⟨h1, h1 ▸ h.1⟩
      · rintro (h1 | h1)
        · exact .inl h1
        · exact .inr h1.1
    · rcases List.mem_append.1 hy with h1 | h1
      · exact hle y h1
      · simp at h1; omega
  · rename_i h
    refine ⟨hs, fun c => ⟨.inl, fun hc => ?_⟩, hle⟩
    rcases hc with hc | ⟨rfl, hc⟩
    · exact hc
    · by_cases hl : o.getLast? = some c
      · exact List.mem_of_getLast? hl
      · exact absurd ⟨hc, hl⟩ h
theorem fold_addB (own : Int) (bs : List Int) (hb : bs.Pairwise (· ≤ ·)) : ∀ o, o.Pairwise (· < ·) → (∀ y ∈ o, ∀ b ∈ bs, y ≤ b) → (bs.foldl (addB own) o).Pairwise (· < ·) ∧ ∀ c, c ∈ bs.foldl (addB own) o ↔ c ∈ o ∨ (c ∈ bs ∧ c ≠ own) := by
  induction bs with
  | nil => intro o ho _; exact ⟨ho, fun c => by simp⟩
  | cons b bs ih =>
    intro o ho hle
    rw [List.pairwise_cons] at hb
    obtain ⟨h1, h2, h3⟩ := addB_ok own b o ho (fun y hy => hle y hy b (by simp))
    obtain ⟨h4, h5⟩ := ih hb.2 (addB own o b) h1 (fun y hy c hc => Int.le_trans (h3 y hy) (hb.1 c hc))
    refine ⟨h4, fun c => ?_⟩
    rw [List.foldl_cons, h5, h2]
    simp only [List.mem_cons]
    constructor
    · rintro ((h | h) | h)
      · exact .inl h
      · exact .inr ⟨.inl h.1, h.2⟩
      · exact .inr ⟨.inr h.1, h.2⟩
    · rintro (h | ⟨h | h, h'⟩)
      · exact .inl (.inl h)
      · exact .inl (.inr ⟨h, h'⟩)
      · exact .inr ⟨h, h'⟩
theorem blocks_rise (l : List R) : ∀ a, RightF a l → (l.flatMap blocksR).Pairwise (· ≤ ·) ∧ ∀ b ∈ l.flatMap blocksR, a / 64 ≤ b := by
  induction l with
  | nil => intro a _; simp
  | cons r l ih =>
    intro a h
    obtain ⟨h0, h1, h2⟩ := h
    obtain ⟨h3, h4⟩ := ih r.2 h2
    rw [List.flatMap_cons]
    refine ⟨?_, fun b hb => ?_⟩
    · rw [List.pairwise_append]
      refine ⟨?_, h3, fun x hx y hy => ?_⟩
      · unfold blocksR
        rw [List.pairwise_map]
        exact List.pairwise_lt_range.imp fun {i j} h => by omega
      · have h5 := (mem_blocksR r x).1 hx
        have h6 := h4 y hy
        omega
    · rcases List.mem_append.1 hb with hb | hb
      · have := (mem_blocksR r b).1 hb; omega
      · have := h4 b hb; omega
theorem readsL_rise (own : Int) {l : List R} (h : Right l) : (readsL own l).Pairwise (· < ·) :=
  (fold_addB own _ (blocks_rise l (-1) h).1 [] (by simp) (by simp)).1
theorem mem_readsL (own : Int) {l : List R} (h : Right l) (b : Int) : b ∈ readsL own l ↔ b ≠ own ∧ ∃ x, In l x ∧ x / 64 = b := by
  unfold readsL
  rw [(fold_addB own _ (blocks_rise l (-1) h).1 [] (by simp) (by simp)).2]
  simp only [List.not_mem_nil, false_or, List.mem_flatMap]
  constructor
  · rintro ⟨⟨r, hr, hb⟩, hne⟩
    have h1 := (mem_blocksR r b).1 hb
    have h2 := right_mem h hr
    exact ⟨hne, max r.1 (b * 64), ⟨r, hr, by omega, by omega⟩, by omega⟩
  · rintro ⟨hne, x, ⟨r, hr, h1, h2⟩, rfl⟩
    exact ⟨⟨r, hr, (mem_blocksR r _).2 ⟨by omega, by omega⟩⟩, hne⟩
theorem rise_nodup {l : List Int} (h : l.Pairwise (· < ·)) : l.Nodup := h.imp fun h => by omega
theorem rise_len : ∀ (l : List Int) (a M : Int), l.Pairwise (· < ·) → (∀ x ∈ l, a ≤ x ∧ x < M) → (l.length : Int) ≤ max 0 (M - a) := by
  intro l
  induction l with
  | nil => intro a M _ _; simp; omega
  | cons b l ih =>
    intro a M h hb
    rw [List.pairwise_cons] at h
    have h1 := hb b (by simp)
    have := ih (b + 1) M h.2 (fun x hx => ⟨by have := h.1 x hx; omega, (hb x (by simp [hx])).2⟩)
    simp only [List.length_cons]
    omega
/-- What is read of the original, with a stash beside. -/
def reads (own : Int) (parts : List S) (stash : List R) : List Int := readsL own (lessR (needL parts) stash)
theorem mem_reads (own : Int) (parts : List S) (stash : List R) (b : Int) : b ∈ reads own parts stash ↔ b ≠ own ∧ ∃ x, (0 ≤ x ∧ Need parts x ∧ ¬ In stash x) ∧ x / 64 = b := by
  unfold reads
  rw [mem_readsL own (lessR_is _ _).1]
  simp only [(lessR_is _ _).2, in_needL]
theorem reads_rise (own : Int) (parts : List S) (stash : List R) : (reads own parts stash).Pairwise (· < ·) := readsL_rise own (lessR_is _ _).1
theorem reads_nodup (own : Int) (parts : List S) (stash : List R) : (reads own parts stash).Nodup := rise_nodup (reads_rise own parts stash)
theorem reads_bound (own : Int) (parts : List S) (stash : List R) {size : Int} (h : ∀ x, Need parts x → x < size) {b : Int} (hb : b ∈ reads own parts stash) : 0 ≤ b ∧ b * 64 < size := by
  obtain ⟨_, x, ⟨h0, h1, _⟩, rfl⟩ := (mem_reads _ _ _ _).1 hb
  have := h x h1
  omega
end Go.Proofs.Yteceephenfmdoaa
