/-
  Rising lists of numbers, plain: with a number, without one, sorted. No program in sight.
-/
namespace Go.Proofs.Ytobeppeadkoieaa
def Ris (l : List Int) : Prop := l.Pairwise (· < ·)
def ins : List Int → Int → List Int
  | [], n => [n]
  | x :: l, n => if n < x then n :: x :: l else x :: ins l n
def withL (l : List Int) (n : Int) : List Int := if n ∈ l then l else ins l n
def outL (l : List Int) (n : Int) : List Int := l.filter fun x => decide (x ≠ n)
theorem mem_ins (l : List Int) (n x : Int) : x ∈ ins l n ↔ x ∈ l ∨ x = n := by
  induction l with
  | nil => simp [ins]
  | cons y l ih =>
    unfold ins
    split
    · simp only [List.mem_cons]
      constructor
      · rintro (h | h | h)
        · exact .inr h
        · exact .inl (.inl h)
        · exact .inl (.inr h)
      · rintro ((h | h) | h)
        · exact .inr (.inl h)
        · exact .inr (.inr h)
        · exact .inl h
    · simp only [List.mem_cons, ih]
      constructor
      · rintro (h | h | h)
        · exact .inl (.inl h)
        · exact .inl (.inr h)
        · exact .inr h
      · rintro ((h | h) | h)
        · exact .inl h
        · exact .inr (.inl h)
        · exact .inr (.inr h)
theorem ins_ris (l : List Int) (n : Int) (h : Ris l) (hn : n ∉ l) : Ris (ins l n) := by
  induction l with
  | nil => simp [ins, Ris]
  | cons y l ih =>
    have h' := List.pairwise_cons.1 h
    have hny : n ≠ y := fun e => hn (by simp [e])
    have hnl : n ∉ l := fun e => hn (by simp [e])
    unfold ins
    split
    · rename_i hlt
      refine List.pairwise_cons.2 ⟨fun x hx => ?_, h⟩
      rcases List.mem_cons.1 hx with e | e
      · omega
      · have := h'.1 x e; omega
    · refine List.pairwise_cons.2 ⟨fun x hx => ?_, ih h'.2 hnl⟩
      rcases (mem_ins l n x).1 hx with e | e
      · exact h'.1 x e
      · omega
theorem ins_len (l : List Int) (n : Int) : (ins l n).length = l.length + 1 := by
  induction l with
  | nil => rfl
  | cons y l ih => unfold ins; split <;> simp [ih]
theorem mem_withL (l : List Int) (n x : Int) : x ∈ withL l n ↔ x ∈ l ∨ x = n := by
  unfold withL
  split
  · rename_i h
    exact ⟨.inl, fun h' => h'.elim id (fun e => e ▸ h)⟩
  · exact mem_ins l n x
theorem withL_ris (l : List Int) (n : Int) (h : Ris l) : Ris (withL l n) := by
  unfold withL
  split
  · exact h
  · rename_i hn; exact ins_ris l n h hn
theorem withL_len (l : List Int) (n : Int) : (withL l n).length ≤ l.length + 1 := by
  unfold withL
  split
  · omega
  · rw [ins_len]; omega
theorem mem_outL (l : List Int) (n x : Int) : x ∈ outL l n ↔ x ∈ l ∧ x ≠ n := by simp [outL]
theorem outL_ris (l : List Int) (n : Int) (h : Ris l) : Ris (outL l n) := List.Pairwise.filter _ h
theorem outL_len (l : List Int) (n : Int) : (outL l n).length ≤ l.length := List.length_filter_le _ _
/-- Rising lists of the same numbers are one. -/
theorem ris_eq : ∀ {l m : List Int}, Ris l → Ris m → (∀ x, x ∈ l ↔ x ∈ m) → l = m := by
  intro l
  induction l with
  | nil =>
    intro m _ _ h
    cases m with
    | nil => rfl
    | cons y m => exact absurd ((h y).2 (by simp)) (by simp)
  | cons x l ih =>
    intro m hl hm h
    cases m with
    | nil => exact absurd ((h x).1 (by simp)) (by simp)
    | cons y m =>
      have hl' := List.pairwise_cons.1 hl
      have hm' := List.pairwise_cons.1 hm
      have hxy : x = y := by
        have h1 := (h x).1 (by simp)
        have h2 := (h y).2 (by simp)
        rcases List.mem_cons.1 h1 with e | e
        · exact e
        · rcases List.mem_cons.1 h2 with e2 | e2
          · exact e2.symm
          · have := hm'.1 x e; have := hl'.1 y e2; omega
      subst hxy
      rw [ih hl'.2 hm'.2 fun z => ?_]
      constructor
      · intro hz
        rcases List.mem_cons.1 ((h z).1 (by simp [hz])) with e | e
        · have := hl'.1 z hz; omega
        · exact e
      · intro hz
        rcases List.mem_cons.1 ((h z).2 (by simp [hz])) with e | e
        · have := hm'.1 z hz; omega
        · exact e
/-- What 'with' does, element by element. -/
def wstep (n : Int) (s : List Int × Bool) (x : Int) : List Int × Bool := if s.2 = false ∧ n < x then (s.1 ++ [n, x], true) else (s.1 ++ [x], s.2)
theorem wfold_true (n : Int) (l : List Int) : ∀ acc, l.foldl (wstep n) (acc, true) = (acc ++ l, true) := by
  induction l with
  | nil => intro acc; simp
  | cons x l ih =>
    intro acc
    rw [List.foldl_cons, wstep, if_neg (by simp), ih]; simp
theorem wfold_false (n : Int) (l : List Int) : ∀ acc, let s := l.foldl (wstep n) (acc, false); (if s.2 then s.1 else s.1 ++ [n]) = acc ++ ins l n := by
  induction l with
  | nil => intro acc; simp [ins]
  | cons x l ih =>
    intro acc
    by_cases h : n < x
    · simp only [List.foldl_cons, wstep, h, and_self, if_true, wfold_true, ins]; simp
    · have := ih (acc ++ [x])
      simp only [List.foldl_cons, wstep, h, and_false, if_false, ins] at this ⊢
      rw [this]; simp
theorem wfold_len (n : Int) (l : List Int) : ∀ s, (l.foldl (wstep n) s).1.length ≤ s.1.length + 2 * l.length := by
  induction l with
  | nil => intro s; simp
  | cons x l ih =>
    intro s
    have := ih (wstep n s x)
    rw [List.foldl_cons]
    have h2 : (wstep n s x).1.length ≤ s.1.length + 2 := by unfold wstep; split <;> simp
    simp only [List.length_cons]; omega
theorem withL_fold (l : List Int) (n : Int) : (let s := l.foldl (wstep n) ([], decide (n ∈ l)); if s.2 then s.1 else s.1 ++ [n]) = withL l n := by
  by_cases h : n ∈ l
  · simp only [decide_eq_true h, wfold_true, withL, if_pos h]; simp
  · have := wfold_false n l []
    simp only [decide_eq_false h, withL, if_neg h]
    simpa using this
theorem wfold_take (n : Int) (l : List Int) (k : Nat) (x : Int) (s : List Int × Bool) (h : l[k]? = some x) : (l.take (k+1)).foldl (wstep n) s = wstep n ((l.take k).foldl (wstep n) s) x := by
  have e : l.take (k+1) = l.take k ++ [x] := by
    obtain ⟨hk, rfl⟩ := List.getElem?_eq_some_iff.1 h
    simp
  rw [e, List.foldl_append]; rfl
end Go.Proofs.Ytobeppeadkoieaa
