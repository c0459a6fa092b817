/-
  What is given back, plain: of the space and of the reference the same, sorted. No program in sight.
-/
import Derived.Test.YtobeppeadkoieaaLists
import Derived.Test.YtobeppeadkoieaaSets
namespace Go.Proofs.Ytobeppeadkoieaa
def bstep (s : (Int → Bool) × List Int) (x : Int) : (Int → Bool) × List Int := if s.1 x = true then (upd s.1 x false, s.2 ++ [x]) else s
def rstep (s : List Int × List Int) (x : Int) : List Int × List Int := if x ∈ s.1 then (outL s.1 x, withL s.2 x) else s
/-- How the two stand to each other. -/
structure Bk (s : (Int → Bool) × List Int) (r : List Int × List Int) : Prop where
  uu : ∀ x, x ∈ r.1 ↔ s.1 x = true
  ru : Ris r.1
  oo : ∀ x, x ∈ r.2 ↔ x ∈ s.2
  ro : Ris r.2
  nd : s.2.Nodup
  no : ∀ x ∈ s.2, s.1 x = false
theorem Bk.step {s : (Int → Bool) × List Int} {r : List Int × List Int} (h : Bk s r) (x : Int) : Bk (bstep s x) (rstep r x) := by
  unfold bstep rstep
  by_cases hx : s.1 x = true
  · rw [if_pos hx, if_pos ((h.uu x).2 hx)]
    refine ⟨fun y => ?_, outL_ris _ _ h.ru, fun y => ?_, withL_ris _ _ h.ro, ?_, fun y hy => ?_⟩
    · simp only [mem_outL, h.uu]
      by_cases hy : y = x
      · subst hy; simp [upd_same]
      · rw [upd_other _ _ hy]; simp [hy]
    · simp only [mem_withL, h.oo, List.mem_append, List.mem_singleton]
    · refine List.nodup_append.2 ⟨h.nd, by simp, fun a ha b hb => ?_⟩
      rw [List.mem_singleton] at hb
      subst hb
      intro e
      subst e
      rw [h.no a ha] at hx; cases hx
    · simp only at hy ⊢
      rcases List.mem_append.1 hy with hy | hy
      · by_cases e : y = x
        · subst e; exact upd_same _ _ _
        · rw [upd_other _ _ e]; exact h.no y hy
      · rw [List.mem_singleton] at hy; subst hy; exact upd_same _ _ _
  · rw [if_neg hx, if_neg (fun h' => hx ((h.uu x).1 h'))]
    exact h
theorem Bk.fold {s : (Int → Bool) × List Int} {r : List Int × List Int} (h : Bk s r) (xs : List Int) : Bk (xs.foldl bstep s) (xs.foldl rstep r) := by
  induction xs generalizing s r with
  | nil => exact h
  | cons x xs ih => exact ih (h.step x)
theorem Bk.start {u : Int → Bool} {U : List Int} (hu : ∀ x, x ∈ U ↔ u x = true) (hU : Ris U) : Bk (u, []) (U, []) :=
  ⟨hu, hU, fun _ => Iff.rfl, List.Pairwise.nil, List.nodup_nil, fun _ hx => absurd hx List.not_mem_nil⟩
theorem sorted_ris {l : List Int} (h : l.Nodup) : Ris (l.mergeSort fun x y => decide (x ≤ y)) := by
  have h1 : (l.mergeSort fun x y => decide (x ≤ y)).Pairwise (fun a b => decide (a ≤ b) = true) := List.pairwise_mergeSort (le := fun x y => decide (x ≤ y)) (fun a b c h1 h2 => by simp at *; omega) (fun a b => by simp; omega) l
  have h2 : (l.mergeSort fun x y => decide (x ≤ y)).Nodup := ((List.mergeSort_perm l _).nodup_iff).2 h
  unfold Ris
  refine (h1.and h2).imp fun ⟨a, b⟩ => ?_
  simp at a
  omega
theorem Bk.sorted {s : (Int → Bool) × List Int} {r : List Int × List Int} (h : Bk s r) : (s.2.mergeSort fun x y => decide (x ≤ y)) = r.2 :=
  ris_eq (sorted_ris h.nd) h.ro fun x => by rw [List.mem_mergeSort, h.oo]
theorem bfold_sub (xs : List Int) : ∀ s : (Int → Bool) × List Int, ∀ x, (xs.foldl bstep s).1 x = true → s.1 x = true := by
  induction xs with
  | nil => intro s x h; exact h
  | cons y xs ih =>
    intro s x h
    have := ih _ x h
    unfold bstep at this
    split at this
    · simp only at this
      by_cases e : x = y
      · subst e; rw [upd_same] at this; cases this
      · rwa [upd_other _ _ e] at this
    · exact this
theorem bfold_len (xs : List Int) : ∀ s : (Int → Bool) × List Int, (xs.foldl bstep s).2.length ≤ s.2.length + xs.length := by
  induction xs with
  | nil => intro s; simp
  | cons y xs ih =>
    intro s
    have h1 := ih (bstep s y)
    have h2 : (bstep s y).2.length ≤ s.2.length + 1 := by unfold bstep; split <;> simp
    rw [List.foldl_cons, List.length_cons]; omega
theorem rfold_len (xs : List Int) : ∀ s : List Int × List Int, (xs.foldl rstep s).1.length ≤ s.1.length ∧ (xs.foldl rstep s).2.length ≤ s.2.length + xs.length := by
  induction xs with
  | nil => intro s; simp
  | cons y xs ih =>
    intro s
    have h1 := ih (rstep s y)
    have h2 : (rstep s y).1.length ≤ s.1.length ∧ (rstep s y).2.length ≤ s.2.length + 1 := by
      unfold rstep; split
      · exact ⟨outL_len _ _, withL_len _ _⟩
      · exact ⟨Nat.le_refl _, by omega⟩
    rw [List.foldl_cons, List.length_cons]; omega
end Go.Proofs.Ytobeppeadkoieaa
