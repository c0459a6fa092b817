/-
  Sets of numbers as lists of ranges, plain: the right list of a set is unique.
-/
namespace Go.Proofs.Ytobeppeadkoieaa.Rg
abbrev R := Int × Int
/-- A number is in one of the ranges. -/
def In (l : List R) (x : Int) : Prop := ∃ r ∈ l, r.1 ≤ x ∧ x < r.2
def RightF : Int → List R → Prop
  | _, [] => True
  | a, r :: l => a < r.1 ∧ r.1 < r.2 ∧ RightF r.2 l
def Right (l : List R) : Prop := RightF (-1) l
theorem in_nil (x : Int) : ¬ In [] x := by rintro ⟨r, hr, _⟩; cases hr
theorem in_cons (r : R) (l : List R) (x : Int) : In (r :: l) x ↔ (r.1 ≤ x ∧ x < r.2) ∨ In l x := by
  constructor
  · rintro ⟨s, hs, h⟩
    rcases List.mem_cons.1 hs with rfl | hs
    · exact .inl h
    · exact .inr ⟨s, hs, h⟩
  · rintro (h | ⟨s, hs, h⟩)
    · exact ⟨r, List.mem_cons_self .., h⟩
    · exact ⟨s, List.mem_cons_of_mem _ hs, h⟩
theorem in_append (l m : List R) (x : Int) : In (l ++ m) x ↔ In l x ∨ In m x := by
  constructor
  · rintro ⟨s, hs, h⟩
    rcases List.mem_append.1 hs with hs | hs
    · exact .inl ⟨s, hs, h⟩
    · exact .inr ⟨s, hs, h⟩
  · rintro (⟨s, hs, h⟩ | ⟨s, hs, h⟩)
    · exact ⟨s, List.mem_append_left _ hs, h⟩
    · exact ⟨s, List.mem_append_right _ hs, h⟩
theorem right_above {a : Int} {l : List R} (h : RightF a l) {x : Int} (hx : In l x) : a < x := by
  induction l generalizing a with
  | nil => exact absurd hx (in_nil x)
  | cons r l ih =>
    obtain ⟨h0, h1, h2⟩ := h
    rcases (in_cons r l x).1 hx with ⟨h3, _⟩ | h3
    · omega
    · have := ih h2 h3
      omega
theorem right_mono {a b : Int} {l : List R} (h : RightF a l) (hb : b ≤ a) : RightF b l := by
  cases l with
  | nil => trivial
  | cons r l => exact ⟨by have := h.1; omega, h.2⟩
theorem right_unique {a b : Int} {l m : List R} (hl : RightF a l) (hm : RightF b m) (h : ∀ x, In l x ↔ In m x) : l = m := by
  induction l generalizing a b m with
  | nil =>
    cases m with
    | nil => rfl
    | cons s m => exact absurd ((h s.1).2 ((in_cons s m s.1).2 (.inl ⟨Int.le_refl _, hm.2.1⟩))) (in_nil _)
  | cons r l ih =>
    cases m with
    | nil => exact absurd ((h r.1).1 ((in_cons r l r.1).2 (.inl ⟨Int.le_refl _, hl.2.1⟩))) (in_nil _)
    | cons s m =>
      obtain ⟨a0, a1, a2⟩ := hl
      obtain ⟨b0, b1, b2⟩ := hm
      have e1 : r.1 = s.1 := by
        have h1 := (in_cons s m r.1).1 ((h r.1).1 ((in_cons r l r.1).2 (.inl ⟨Int.le_refl _, a1⟩)))
        have h2 := (in_cons r l s.1).1 ((h s.1).2 ((in_cons s m s.1).2 (.inl ⟨Int.le_refl _, b1⟩)))
        have h3 : s.1 ≤ r.1 := by
          rcases h1 with h1 | h1
          · exact h1.1
          · have := right_above b2 h1; omega
        have h4 : r.1 ≤ s.1 := by
          rcases h2 with h2 | h2
          · exact h2.1
          · have := right_above a2 h2; omega
        omega
      have n1 : ¬ In (r :: l) r.2 := fun hx => by
        rcases (in_cons r l r.2).1 hx with ⟨_, hx⟩ | hx
        · omega
        · have := right_above a2 hx; omega
      have n2 : ¬ In (s :: m) s.2 := fun hx => by
        rcases (in_cons s m s.2).1 hx with ⟨_, hx⟩ | hx
        · omega
        · have := right_above b2 hx; omega
      have e2 : r.2 = s.2 := by
        rcases Int.lt_trichotomy r.2 s.2 with hlt | he | hlt
        · exact absurd ((h r.2).2 ((in_cons s m r.2).2 (.inl ⟨by omega, hlt⟩))) n1
        · exact he
        · exact absurd ((h s.2).1 ((in_cons r l s.2).2 (.inl ⟨by omega, hlt⟩))) n2
      have er : r = s := Prod.ext e1 e2
      subst er
      rw [ih a2 b2 (fun x => ?_)]
      constructor
      · intro hx
        have hgt := right_above a2 hx
        rcases (in_cons r m x).1 ((h x).1 ((in_cons r l x).2 (.inr hx))) with hx' | hx'
        · omega
        · exact hx'
      · intro hx
        have hgt := right_above b2 hx
        rcases (in_cons r l x).1 ((h x).2 ((in_cons r m x).2 (.inr hx))) with hx' | hx'
        · omega
        · exact hx'
def lastTo : Int → List R → Int
  | a, [] => a
  | _, r :: l => lastTo r.2 l
theorem right_append (a : Int) (l m : List R) : RightF a (l ++ m) ↔ RightF a l ∧ RightF (lastTo a l) m := by
  induction l generalizing a with
  | nil => simp [RightF, lastTo]
  | cons r l ih =>
    simp only [List.cons_append, RightF, lastTo, ih]
    constructor
    · rintro ⟨h0, h1, h2, h3⟩; exact ⟨⟨h0, h1, h2⟩, h3⟩
    · rintro ⟨⟨h0, h1, h2⟩, h3⟩; exact ⟨h0, h1, h2, h3⟩
theorem lastTo_snoc (a : Int) (l : List R) (s : R) : lastTo a (l ++ [s]) = s.2 := by
  induction l generalizing a with
  | nil => rfl
  | cons r l ih => exact ih r.2
theorem in_one (s : R) (x : Int) : In [s] x ↔ s.1 ≤ x ∧ x < s.2 := by
  rw [in_cons]
  exact ⟨fun h => h.resolve_right (in_nil x), .inl⟩
/-- A range that begins in the last one, or right behind it, goes on in it. -/
theorem grow_last (l : List R) (s r : R) (h : Right (l ++ [s])) (h0 : s.1 ≤ r.1) (h1 : r.1 < r.2) (h2 : r.1 ≤ s.2) :
    Right (l ++ [(s.1, max s.2 r.2)]) ∧ ∀ x, In (l ++ [(s.1, max s.2 r.2)]) x ↔ In (l ++ [s]) x ∨ (r.1 ≤ x ∧ x < r.2) := by
  unfold Right at *
  rw [right_append] at h ⊢
  obtain ⟨a, b, c, _⟩ := h
  refine ⟨⟨a, b, by show s.1 < max s.2 r.2; omega, trivial⟩, fun x => ?_⟩
  rw [in_append, in_append, in_one, in_one]
  show (In l x ∨ (s.1 ≤ x ∧ x < max s.2 r.2)) ↔ _
  constructor
  · rintro (h | h)
    · exact .inl (.inl h)
    · by_cases hx : x < s.2
      · exact .inl (.inr ⟨h.1, hx⟩)
      · exact .inr ⟨by omega, by omega⟩
  · rintro ((h | h) | h)
    · exact .inl h
    · exact .inr ⟨h.1, by omega⟩
    · exact .inr ⟨by omega, by omega⟩
/-- A range that begins behind it is another one. -/
theorem new_last (l : List R) (r : R) (h : Right l) (h0 : lastTo (-1) l < r.1) (h1 : r.1 < r.2) :
    Right (l ++ [r]) ∧ ∀ x, In (l ++ [r]) x ↔ In l x ∨ (r.1 ≤ x ∧ x < r.2) := by
  unfold Right at *
  rw [right_append]
  exact ⟨⟨h, h0, h1, trivial⟩, fun x => by rw [in_append, in_one]⟩
/-- One range more, behind those that begin no later. -/
def mstep (out : List R) (r : R) : List R :=
  match out.getLast? with
  | none => [r]
  | some s => if r.1 ≤ s.2 then out.dropLast ++ [(s.1, max s.2 r.2)] else out ++ [r]
theorem mstep_ok (out : List R) (r : R) (h : Right out) (h0 : 0 ≤ r.1) (h1 : r.1 < r.2) (hl : ∀ s, out.getLast? = some s → s.1 ≤ r.1) :
    Right (mstep out r) ∧ (∀ x, In (mstep out r) x ↔ In out x ∨ (r.1 ≤ x ∧ x < r.2)) ∧ ∀ s, (mstep out r).getLast? = some s → s.1 ≤ r.1 := by
  unfold mstep
  cases ho : out.getLast? with
  | none =>
    have he : out = [] := List.getLast?_eq_none_iff.1 ho
    subst he
    refine ⟨⟨by omega, h1, trivial⟩, fun x => ?_, fun s hs => ?_⟩
    · show In [r] x ↔ _
      rw [in_one]
      exact ⟨.inr, fun hx => hx.resolve_left (in_nil x)⟩
    · simp at hs; subst hs; exact Int.le_refl _
  | some s =>
    have hs1 := hl s ho
    obtain ⟨ys, hy⟩ := List.getLast?_eq_some_iff.1 ho
    subst hy
    simp only [List.dropLast_concat]
    by_cases hc : r.1 ≤ s.2
    · simp only [if_pos hc]
      obtain ⟨a, b⟩ := grow_last ys s r h hs1 h1 hc
      refine ⟨a, b, fun z hz => ?_⟩
      simp at hz; subst hz; exact hs1
    · simp only [if_neg hc]
      obtain ⟨a, b⟩ := new_last (ys ++ [s]) r h (by rw [lastTo_snoc]; omega) h1
      refine ⟨a, b, fun z hz => ?_⟩
      simp at hz; subst hz; exact Int.le_refl _
/-- Ranges that begin no earlier than those ahead of them, put together. -/
theorem merge_ok (l : List R) (hs : l.Pairwise (fun a b => a.1 ≤ b.1)) (hp : ∀ r ∈ l, 0 ≤ r.1 ∧ r.1 < r.2) : ∀ out, Right out → (∀ s, out.getLast? = some s → ∀ r ∈ l, s.1 ≤ r.1) →
    Right (l.foldl mstep out) ∧ ∀ x, In (l.foldl mstep out) x ↔ In out x ∨ In l x := by
  induction l with
  | nil => intro out h _; exact ⟨h, fun x => ⟨.inl, fun hx => hx.resolve_right (in_nil x)⟩⟩
  | cons r l ih =>
    intro out h hl
    obtain ⟨p0, p1⟩ := hp r (List.mem_cons_self ..)
    rw [List.pairwise_cons] at hs
    obtain ⟨a, b, c⟩ := mstep_ok out r h p0 p1 (fun s hs' => hl s hs' r (List.mem_cons_self ..))
    obtain ⟨d, e⟩ := ih hs.2 (fun q hq => hp q (List.mem_cons_of_mem _ hq)) (mstep out r) a (fun s hs' q hq => Int.le_trans (c s hs') (hs.1 q hq))
    refine ⟨d, fun x => ?_⟩
    rw [List.foldl_cons, e x, b x, in_cons, or_assoc]
/-- Ranges from 0 on, without empty ones. -/
def clip (l : List R) : List R := (l.map fun r => (max r.1 0, r.2)).filter fun r => decide (r.1 < r.2)
theorem clip_in (l : List R) (x : Int) : In (clip l) x ↔ 0 ≤ x ∧ In l x := by
  constructor
  · rintro ⟨s, hs, h⟩
    obtain ⟨hs1, _⟩ := List.mem_filter.1 hs
    obtain ⟨r, hr, rfl⟩ := List.mem_map.1 hs1
    simp only at h
    exact ⟨by omega, r, hr, by omega, h.2⟩
  · rintro ⟨h0, r, hr, h1, h2⟩
    refine ⟨(max r.1 0, r.2), List.mem_filter.2 ⟨List.mem_map.2 ⟨r, hr, rfl⟩, ?_⟩, ?_, h2⟩
    · simp only [decide_eq_true_eq]; omega
    · simp only; omega
theorem clip_ok (l : List R) : ∀ r ∈ clip l, 0 ≤ r.1 ∧ r.1 < r.2 := by
  intro s hs
  obtain ⟨hs1, hs2⟩ := List.mem_filter.1 hs
  obtain ⟨r, hr, rfl⟩ := List.mem_map.1 hs1
  simp only [decide_eq_true_eq] at hs2
  exact ⟨by simp only; omega, hs2⟩
end Go.Proofs.Ytobeppeadkoieaa.Rg
