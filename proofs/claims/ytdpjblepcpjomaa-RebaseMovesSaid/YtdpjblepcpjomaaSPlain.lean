/-
  Plain laws on lists of scraps: joining, pieces; the bytes of a list; no program in sight.
-/
import Derived.Test.YtdpjblepcpjomaaSBase
namespace Go.Proofs.Ytdpjblepcpjomaa.Sc
open Go.RowKit
def glue (out : List S) (s : S) : List S :=
  match out.getLast? with
  | some t => if t.src = s.src ∧ t.at_ + t.len = s.at_ then out.dropLast ++ [{ t with len := t.len + s.len }] else out ++ [s]
  | none => [s]
theorem glue_nil (s : S) : glue [] s = [s] := rfl
theorem glue_yes (L : List S) (t s : S) (h : t.src = s.src ∧ t.at_ + t.len = s.at_) : glue (L ++ [t]) s = L ++ [{ t with len := t.len + s.len }] := by
  simp [glue, h]
theorem glue_no (L : List S) (t s : S) (h : ¬ (t.src = s.src ∧ t.at_ + t.len = s.at_)) : glue (L ++ [t]) s = L ++ [t] ++ [s] := by
  simp [glue, h]
def joinL (l : List S) : List S := l.foldl glue []
theorem joinL_snoc (l : List S) (s : S) : joinL (l ++ [s]) = glue (joinL l) s := by simp [joinL, List.foldl_append]
theorem snoc_cases {α : Type} (l : List α) : l = [] ∨ ∃ L t, l = L ++ [t] := by
  rcases List.eq_nil_or_concat l with h | ⟨L, t, h⟩
  · exact .inl h
  · exact .inr ⟨L, t, by simpa using h⟩
theorem glue_ok {l : List S} {s : S} (h : Ok l) (hs : okS s) : Ok (glue l s) := by
  have h1 : Ok [s] := fun t ht => by simp at ht; subst ht; exact hs
  rcases snoc_cases l with rfl | ⟨L, t, rfl⟩
  · exact h1
  · by_cases hc : t.src = s.src ∧ t.at_ + t.len = s.at_
    · rw [glue_yes L t s hc]
      refine Ok.append (fun u hu => h u (by simp [hu])) ?_
      intro u hu
      simp at hu; subst hu
      have ht := h t (by simp)
      unfold okS at *
      simp only
      omega
    · rw [glue_no L t s hc]
      exact h.append h1
theorem foldl_ok (l : List S) : ∀ out, Ok out → Ok l → Ok (l.foldl glue out) := by
  induction l with
  | nil => intro out h _; exact h
  | cons a l ih => intro out h h'; exact ih _ (glue_ok h (h' a (by simp))) h'.tail
theorem joinL_ok {l : List S} (h : Ok l) : Ok (joinL l) := foldl_ok l [] (fun s hs => by simp at hs) h
theorem tot_glue (l : List S) (s : S) : tot (glue l s) = tot l + s.len := by
  rcases snoc_cases l with rfl | ⟨L, t, rfl⟩
  · simp [glue_nil, tot]
  · by_cases hc : t.src = s.src ∧ t.at_ + t.len = s.at_
    · rw [glue_yes L t s hc]; simp only [tot_append, tot]; omega
    · rw [glue_no L t s hc]; simp only [tot_append, tot]; omega
theorem tot_foldl (l : List S) : ∀ out, tot (l.foldl glue out) = tot out + tot l := by
  induction l with
  | nil => intro out; simp [tot]
  | cons a l ih => intro out; simp only [List.foldl_cons, ih, tot_glue, tot]; omega
theorem tot_joinL (l : List S) : tot (joinL l) = tot l := by simp [joinL, tot_foldl, tot]
theorem glue_length (l : List S) (s : S) : (glue l s).length ≤ l.length + 1 := by
  rcases snoc_cases l with rfl | ⟨L, t, rfl⟩
  · simp [glue_nil]
  · by_cases hc : t.src = s.src ∧ t.at_ + t.len = s.at_
    · rw [glue_yes L t s hc]; simp
    · rw [glue_no L t s hc]; simp
theorem foldl_length (l : List S) : ∀ out, (l.foldl glue out).length ≤ out.length + l.length := by
  induction l with
  | nil => intro out; simp
  | cons a l ih => intro out; have := ih (glue out a); have := glue_length out a; simp only [List.foldl_cons, List.length_cons]; omega
theorem joinL_length (l : List S) : (joinL l).length ≤ l.length := by have := foldl_length l []; simpa [joinL] using this
end Go.Proofs.Ytdpjblepcpjomaa.Sc
