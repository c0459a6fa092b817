/-
  RA: texts of one kind, one behind the other.
-/

/-
  Sets of numbers as lists of ranges, plain: the right list of a set is unique.
-/
namespace Go.Proofs.YtblibmalommdkaaGreat
abbrev R := Int × Int
/-- A number is in one of the ranges. -/
def In (l : List R) (x : Int) : Prop := ∃ r ∈ l, r.1 ≤ x ∧ x < r.2
def RightF : Int → List R → Prop
  | _, [] => True
  | a, r :: l => a < r.1 ∧ r.1 < r.2 ∧ RightF r.2 l
def Right (l : List R) : Prop := RightF (-1) l
theorem in_nil (x : Int) : ¬ In [] x := by rintro ⟨r, hr, _⟩; cases hr
theorem in_cons (r : R) (l : List R) (x : Int) : In (r :: l) x ↔ (r.1 ≤ x ∧ x < r.2) ∨ In l x := by
  constructor
  · rintro ⟨s, hs, h⟩
    rcases List.mem_cons.1 hs with rfl | hs
    · exact .inl h
    · exact .inr ⟨s, hs, h⟩
  · rintro (h | ⟨s, hs, h⟩)
    · exact ⟨r, List.mem_cons_self .., h⟩
    · exact ⟨s, List.mem_cons_of_mem _ hs, h⟩
theorem in_append (l m : List R) (x : Int) : In (l ++ m) x ↔ In l x ∨ In m x := by
  constructor
  · rintro ⟨s, hs, h⟩
    rcases List.mem_append.1 hs with hs | hs
    · exact .inl ⟨s, hs, h⟩
    · exact .inr ⟨s, hs, h⟩
  · rintro (⟨s, hs, h⟩ | ⟨s, hs, h⟩)
    · exact ⟨s, List.mem_append_left _ hs, h⟩
    · exact ⟨s, List.mem_append_right _ hs, h⟩
theorem right_above {a : Int} {l : List R} (h : RightF a l) {x : Int} (hx : In l x) : a < x := by
  induction l generalizing a with
  | nil => exact absurd hx (in_nil x)
  | cons r l ih =>
    obtain ⟨h0, h1, h2⟩ := h
    rcases (in_cons r l x).1 hx with ⟨h3, _⟩ | h3
    · omega
    · have := ih h2 h3
      omega
theorem right_mono {a b : Int} {l : List R} (h : RightF a l) (hb : b ≤ a) : RightF b l := by
  cases l with
  | nil => trivial
  | cons r l => exact ⟨by have := h.1; omega, h.2⟩
theorem right_unique {a b : Int} {l m : List R} (hl : RightF a l) (hm : RightF b m) (h : ∀ x, In l x ↔ In m x) : l = m := by
  induction l generalizing a b m with
  | nil =>
    cases m with
    | nil => rfl
    | cons s m => exact absurd ((h s.1).2 ((in_cons s m s.1).2 (.inl ⟨Int.le_refl _, hm.2.1⟩))) (in_nil _)
  | cons r l ih =>
    cases m with
    | nil => exact absurd ((h r.1).1 ((in_cons r l r.1).2 (.inl ⟨Int.le_refl _, hl.2.1⟩))) (in_nil _)
    | cons s m =>
      obtain ⟨a0, a1, a2⟩ := hl
      obtain ⟨b0, b1, b2⟩ := hm
      have e1 : r.1 = s.1 := by
        have h1 := (in_cons s m r.1).1 ((h r.1).1 ((in_cons r l r.1).2 (.inl ⟨Int.le_refl _, a1⟩)))
        have h2 := (in_cons r l s.1).1 ((h s.1).2 ((in_cons s m s.1).2 (.inl ⟨Int.le_refl _, b1⟩)))
        have h3 : s.1 ≤ r.1 := by
          rcases h1 with h1 | h1
          · exact h1.1
          · have := right_above b2 h1; omega
        have h4 : r.1 ≤ s.1 := by
          rcases h2 with h2 | h2
          · exact h2.1
          · have := right_above a2 h2; omega
        omega
      have n1 : ¬ In (r :: l) r.2 := fun hx => by
        rcases (in_cons r l r.2).1 hx with ⟨_, hx⟩ | hx
        · omega
        · have := right_above a2 hx; omega
      have n2 : ¬ In (s :: m) s.2 := fun hx => by
        rcases (in_cons s m s.2).1 hx with ⟨_, hx⟩ | hx
        · omega
        · have := right_above b2 hx; omega
      have e2 : r.2 = s.2 := by
        rcases Int.lt_trichotomy r.2 s.2 with hlt | he | hlt
        · exact absurd ((h r.2).2 ((in_cons s m r.2).2 (.inl ⟨by omega, hlt⟩))) n1
        · exact he
        · exact absurd ((h s.2).1 ((in_cons r l s.2).2 (.inl ⟨by omega, hlt⟩))) n2
      have er : r = s := Prod.ext e1 e2
      subst er
      rw [ih a2 b2 (fun x => ?_)]
      constructor
      · intro hx
        have hgt := right_above a2 hx
        rcases (in_cons r m x).1 ((h x).1 ((in_cons r l x).2 (.inr hx))) with hx' | hx'
        · omega
        · exact hx'
      · intro hx
        have hgt := right_above b2 hx
        rcases (in_cons r l x).1 ((h x).2 ((in_cons r m x).2 (.inr hx))) with hx' | hx'
        · omega
        · exact hx'
def lastTo : Int → List R → Int
  | a, [] => a
  | _, r :: l => lastTo r.2 l
theorem right_append (a : Int) (l m : List R) : RightF a (l ++ m) ↔ RightF a l ∧ RightF (lastTo a l) m := by
  induction l generalizing a with
  | nil => simp [RightF, lastTo]
  | cons r l ih =>
    simp only [List.cons_append, RightF, lastTo, ih]
    constructor
    · rintro ⟨h0, h1, h2, h3⟩; exact ⟨⟨h0, h1, h2⟩, h3⟩
    · rintro ⟨⟨h0, h1, h2⟩, h3⟩; exact ⟨h0, h1, h2, h3⟩
theorem lastTo_snoc (a : Int) (l : List R) (s : R) : lastTo a (l ++ [s]) = s.2 := by
  induction l generalizing a with
  | nil => rfl
  | cons r l ih => exact ih r.2
theorem in_one (s : R) (x : Int) : In [s] x ↔ s.1 ≤ x ∧ x < s.2 := by
  rw [in_cons]
  exact ⟨fun h => h.resolve_right (in_nil x), .inl⟩
/-- A range that begins in the last one, or right behind it, goes on in it. -/
theorem grow_last (l : List R) (s r : R) (h : Right (l ++ [s])) (h0 : s.1 ≤ r.1) (h1 : r.1 < r.2) (h2 : r.1 ≤ s.2) :
    Right (l ++ [(s.1, max s.2 r.2)]) ∧ ∀ x, In (l ++ [(s.1, max s.2 r.2)]) x ↔ In (l ++ [s]) x ∨ (r.1 ≤ x ∧ x < r.2) := by
  unfold Right at *
  rw [right_append] at h ⊢
  obtain ⟨a, b, c, _⟩ := h
  refine ⟨⟨a, b, by show s.1 < max s.2 r.2; omega, trivial⟩, fun x => ?_⟩
  rw [in_append, in_append, in_one, in_one]
  show (In l x ∨ (s.1 ≤ x ∧ x < max s.2 r.2)) ↔ _
  constructor
  · rintro (h | h)
    · exact .inl (.inl h)
    · by_cases hx : x < s.2
      · exact .inl (.inr ⟨h.1, hx⟩)
      · exact .inr ⟨by omega, by omega⟩
  · rintro ((h | h) | h)
    · exact .inl h
    · exact .inr ⟨h.1, by omega⟩
    · exact .inr ⟨by omega, by omega⟩
/-- A range that begins behind it is another one. -/
theorem new_last (l : List R) (r : R) (h : Right l) (h0 : lastTo (-1) l < r.1) (h1 : r.1 < r.2) :
    Right (l ++ [r]) ∧ ∀ x, In (l ++ [r]) x ↔ In l x ∨ (r.1 ≤ x ∧ x < r.2) := by
  unfold Right at *
  rw [right_append]
  exact ⟨⟨h, h0, h1, trivial⟩, fun x => by rw [in_append, in_one]⟩
/-- One range more, behind those that begin no later. -/
def mstep (out : List R) (r : R) : List R :=
  match out.getLast? with
  | none => [r]
  | some s => if r.1 ≤ s.2 then out.dropLast ++ [(s.1, max s.2 r.2)] else out ++ [r]
theorem mstep_ok (out : List R) (r : R) (h : Right out) (h0 : 0 ≤ r.1) (h1 : r.1 < r.2) (hl : ∀ s, out.getLast? = some s → s.1 ≤ r.1) :
    Right (mstep out r) ∧ (∀ x, In (mstep out r) x ↔ In out x ∨ (r.1 ≤ x ∧ x < r.2)) ∧ ∀ s, (mstep out r).getLast? = some s → s.1 ≤ r.1 := by
  unfold mstep
  cases ho : out.getLast? with
  | none =>
    have he : out = [] := List.getLast?_eq_none_iff.1 ho
    subst he
    refine ⟨⟨by omega, h1, trivial⟩, fun x => ?_, fun s hs => ?_⟩
    · show In [r] x ↔ _
      rw [in_one]
      exact ⟨.inr, fun hx => hx.resolve_left (in_nil x)⟩
    · simp at hs; subst hs; exact Int.le_refl _
  | some s =>
    have hs1 := hl s ho
    obtain ⟨ys, hy⟩ := List.getLast?_eq_some_iff.1 ho
    subst hy
    simp only [List.dropLast_concat]
    by_cases hc : r.1 ≤ s.2
    · simp only [if_pos hc]
      obtain ⟨a, b⟩ := grow_last ys s r h hs1 h1 hc
      refine ⟨a, b, fun z hz => ?_⟩
      simp at hz; subst hz; exact hs1
    · simp only [if_neg hc]
      obtain ⟨a, b⟩ := new_last (ys ++ [s]) r h (by rw [lastTo_snoc]; omega) h1
      refine ⟨a, b, fun z hz => ?_⟩
      simp at hz; subst hz; exact Int.le_refl _
/-- Ranges that begin no earlier than those ahead of them, put together. -/
theorem merge_ok (l : List R) (hs : l.Pairwise (fun a b => a.1 ≤ b.1)) (hp : ∀ r ∈ l, 0 ≤ r.1 ∧ r.1 < r.2) : ∀ out, Right out → (∀ s, out.getLast? = some s → ∀ r ∈ l, s.1 ≤ r.1) →
    Right (l.foldl mstep out) ∧ ∀ x, In (l.foldl mstep out) x ↔ In out x ∨ In l x := by
  induction l with
  | nil => intro out h _; exact ⟨h, fun x => ⟨.inl, fun hx => hx.resolve_right (in_nil x)⟩⟩
  | cons r l ih =>
    intro out h hl
    obtain ⟨p0, p1⟩ := hp r (List.mem_cons_self ..)
    rw [List.pairwise_cons] at hs
    obtain ⟨a, b, c⟩ := mstep_ok out r h p0 p1 (fun s hs' => hl s hs' r (List.mem_cons_self ..))
    obtain ⟨d, e⟩ := ih hs.2 (fun q hq => hp q (List.mem_cons_of_mem _ hq)) (mstep out r) a (fun s hs' q hq => Int.le_trans (c s hs') (hs.1 q hq))
    refine ⟨d, fun x => ?_⟩
    rw [List.foldl_cons, e x, b x, in_cons, or_assoc]
/-- Ranges from 0 on, without empty ones. -/
def clip (l : List R) : List R := (l.map fun r => (max r.1 0, r.2)).filter fun r => decide (r.1 < r.2)
theorem clip_in (l : List R) (x : Int) : In (clip l) x ↔ 0 ≤ x ∧ In l x := by
  constructor
  · rintro ⟨s, hs, h⟩
    obtain ⟨hs1, _⟩ := List.mem_filter.1 hs
    obtain ⟨r, hr, rfl⟩ := List.mem_map.1 hs1
    simp only at h
    exact ⟨by omega, r, hr, by omega, h.2⟩
  · rintro ⟨h0, r, hr, h1, h2⟩
    refine ⟨(max r.1 0, r.2), List.mem_filter.2 ⟨List.mem_map.2 ⟨r, hr, rfl⟩, ?_⟩, ?_, h2⟩
    · simp only [decide_eq_true_eq]; omega
    · simp only; omega
theorem clip_ok (l : List R) : ∀ r ∈ clip l, 0 ≤ r.1 ∧ r.1 < r.2 := by
  intro s hs
  obtain ⟨hs1, hs2⟩ := List.mem_filter.1 hs
  obtain ⟨r, hr, rfl⟩ := List.mem_map.1 hs1
  simp only [decide_eq_true_eq] at hs2
  exact ⟨by simp only; omega, hs2⟩
end Go.Proofs.YtblibmalommdkaaGreat

/-
  Sets of numbers as lists of ranges, plain: the right list of a list's numbers; what both have; what one has alone; how many they are.
-/
namespace Go.Proofs.YtblibmalommdkaaGreat
/-- The right list of a set. -/
def Is (m : List R) (p : Int → Prop) : Prop := Right m ∧ ∀ x, In m x ↔ p x
theorem Is.uniq {m m' : List R} {p p' : Int → Prop} (h : Is m p) (h' : Is m' p') (e : ∀ x, p x ↔ p' x) : m = m' := right_unique h.1 h'.1 fun x => (h.2 x).trans ((e x).trans (h'.2 x).symm)
theorem Is.congr {m : List R} {p p' : Int → Prop} (h : Is m p) (e : ∀ x, p x ↔ p' x) : Is m p' := ⟨h.1, fun x => (h.2 x).trans (e x)⟩
theorem right_mem {a : Int} {m : List R} (h : RightF a m) {r : R} (hr : r ∈ m) : a < r.1 ∧ r.1 < r.2 := by
  induction m generalizing a with
  | nil => cases hr
  | cons s m ih =>
    obtain ⟨h0, h1, h2⟩ := h
    rcases List.mem_cons.1 hr with rfl | hr
    · exact ⟨h0, h1⟩
    · have := ih h2 hr
      omega
def I64 (x : Int) : Prop := -9223372036854775808 ≤ x ∧ x ≤ 9223372036854775807
def IR (l : List R) : Prop := ∀ r ∈ l, I64 r.1 ∧ I64 r.2
/-- Ranges of a right list are no numbers below 0 or too great. -/
def Nn (l : List R) : Prop := ∀ r ∈ l, 0 ≤ r.1 ∧ r.1 < r.2 ∧ r.2 ≤ 9223372036854775807
theorem Nn.ir {l : List R} (h : Nn l) : IR l := fun r hr => by
  obtain ⟨h0, h1, h2⟩ := h r hr
  unfold I64; omega
theorem Is.nn {m : List R} {p : Int → Prop} (h : Is m p) (hp : ∀ x, p x → x < 9223372036854775807) : Nn m := fun r hr => by
  have h1 := right_mem h.1 hr
  have h2 := hp (r.2 - 1) ((h.2 _).1 ⟨r, hr, by omega, by omega⟩)
  omega
theorem IR.in_lt {l : List R} (h : IR l) {x : Int} (hx : In l x) : x < 9223372036854775807 := by
  obtain ⟨r, hr, h1, h2⟩ := hx
  have := (h r hr).2
  unfold I64 at this; omega
theorem IR.append {l m : List R} (h : IR l) (h' : IR m) : IR (l ++ m) := fun r hr => by
  rcases List.mem_append.1 hr with hr | hr
  · exact h r hr
  · exact h' r hr
theorem mstep_len (out : List R) (r : R) : (mstep out r).length ≤ out.length + 1 := by
  unfold mstep
  split
  · simp
  · rename_i s hs
    split
    · have : out ≠ [] := by rintro rfl; simp at hs
      have := List.length_pos_iff.2 this
      simp
    · simp
theorem fold_len (l out : List R) : (l.foldl mstep out).length ≤ out.length + l.length := by
  induction l generalizing out with
  | nil => simp
  | cons r l ih => have := ih (mstep out r); have := mstep_len out r; simp only [List.foldl_cons, List.length_cons]; omega
/-- The right list of the same numbers. -/
def nl (l : List R) : List R := ((clip l).mergeSort fun a b => decide (a.1 ≤ b.1)).foldl mstep []
theorem fold_is (l d : List R) (hp : d.Perm (clip l)) (hs : d.Pairwise (fun a b => a.1 ≤ b.1)) : Is (d.foldl mstep []) (fun x => 0 ≤ x ∧ In l x) := by
  obtain ⟨h1, h2⟩ := merge_ok d hs (fun r hr => clip_ok l r (hp.mem_iff.1 hr)) [] trivial (fun s hs => by simp at hs)
  refine ⟨h1, fun x => ?_⟩
  show _ ↔ 0 ≤ x ∧ In l x
  rw [h2, ← clip_in]
  constructor
  · rintro (h | ⟨r, hr, h⟩)
    · exact absurd h (in_nil x)
    · exact ⟨r, hp.mem_iff.1 hr, h⟩
  · rintro ⟨r, hr, h⟩
    exact .inr ⟨r, hp.mem_iff.2 hr, h⟩
theorem sort_pw (l : List R) : (l.mergeSort fun a b => decide (a.1 ≤ b.1)).Pairwise (fun a b => a.1 ≤ b.1) := by
  have h := List.pairwise_mergeSort (le := fun (a b : R) => decide (a.1 ≤ b.1)) (fun a b c h1 h2 => by simp at *; omega) (fun a b => by simp; omega) l
  exact h.imp fun h => by simpa using h
theorem nl_is (l : List R) : Is (nl l) (fun x => 0 ≤ x ∧ In l x) := fold_is l _ (List.mergeSort_perm _ _) (sort_pw _)
theorem nl_eq (l d : List R) (hp : d.Perm (clip l)) (hs : d.Pairwise (fun a b => a.1 ≤ b.1)) : d.foldl mstep [] = nl l := (fold_is l d hp hs).uniq (nl_is l) fun _ => Iff.rfl
theorem nl_len (l : List R) : (nl l).length ≤ l.length := by
  have h1 := fold_len ((clip l).mergeSort fun a b => decide (a.1 ≤ b.1)) []
  rw [List.length_mergeSort] at h1
  have h2 : (clip l).length ≤ l.length := by unfold clip; exact Nat.le_trans (List.length_filter_le _ _) (by simp)
  unfold nl
  simp only [List.length_nil] at h1
  omega
theorem nl_nn {l : List R} (h : IR l) : Nn (nl l) := (nl_is l).nn fun _ hx => h.in_lt hx.2
/-- The right list of what each of two right lists has. -/
def bothL : List R → List R → List R
  | [], _ => []
  | _ :: _, [] => []
  | r :: a, s :: b => (if max r.1 s.1 < min r.2 s.2 then [(max r.1 s.1, min r.2 s.2)] else []) ++ (if r.2 ≤ s.2 then bothL a (s :: b) else bothL (r :: a) b)
termination_by a b => a.length + b.length
theorem bothL_nil (b : List R) : bothL [] b = [] := by unfold bothL; rfl
theorem bothL_nil' (a : List R) : bothL a [] = [] := by cases a <;> unfold bothL <;> rfl
theorem bothL_cons (r s : R) (a b : List R) : bothL (r :: a) (s :: b) = (if max r.1 s.1 < min r.2 s.2 then [(max r.1 s.1, min r.2 s.2)] else []) ++ (if r.2 ≤ s.2 then bothL a (s :: b) else bothL (r :: a) b) := by
  rw [bothL]
theorem bothL_right (n : Nat) : ∀ (a b : List R), a.length + b.length ≤ n → ∀ c d e, RightF c a → RightF d b → (e ≤ c ∨ e ≤ d) → RightF e (bothL a b) := by
  induction n with
  | zero =>
    intro a b h c d e _ _ _
    have : a = [] := List.length_eq_zero_iff.1 (by omega)
    subst this
    rw [bothL_nil]; trivial
  | succ n ih =>
    intro a b hn c d e ha hb he
    cases a with
    | nil => rw [bothL_nil]; trivial
    | cons r a =>
      cases b with
      | nil => rw [bothL_nil']; trivial
      | cons s b =>
        rw [bothL_cons]
        obtain ⟨a0, a1, a2⟩ := ha
        obtain ⟨b0, b1, b2⟩ := hb
        simp only [List.length_cons] at hn
        have key : ∀ e, (e ≤ max c d ∨ (e ≤ min r.2 s.2)) → RightF e (if r.2 ≤ s.2 then bothL a (s :: b) else bothL (r :: a) b) := by
          intro e he
          by_cases hc : r.2 ≤ s.2
          · rw [if_pos hc]
            rcases Int.le_total e r.2 with h | h
            · exact ih a (s :: b) (by simp only [List.length_cons]; omega) r.2 d e a2 ⟨b0, b1, b2⟩ (.inl h)
            · exact ih a (s :: b) (by simp only [List.length_cons]; omega) r.2 d e a2 ⟨b0, b1, b2⟩ (by omega)
          · rw [if_neg hc]
            rcases Int.le_total e s.2 with h | h
            · exact ih (r :: a) b (by simp only [List.length_cons]; omega) c s.2 e ⟨a0, a1, a2⟩ b2 (.inr h)
            · exact ih (r :: a) b (by simp only [List.length_cons]; omega) c s.2 e ⟨a0, a1, a2⟩ b2 (by omega)
        by_cases hl : max r.1 s.1 < min r.2 s.2
        · rw [if_pos hl]
          exact ⟨by show e < max r.1 s.1; omega, hl, key _ (.inr (Int.le_refl _))⟩
        · rw [if_neg hl]
          exact key e (.inl (by omega))
theorem bothL_in (n : Nat) : ∀ (a b : List R), a.length + b.length ≤ n → ∀ c d, RightF c a → RightF d b → ∀ x, In (bothL a b) x ↔ In a x ∧ In b x := by
  induction n with
  | zero =>
    intro a b h c d _ _ x
    have : a = [] := List.length_eq_zero_iff.1 (by omega)
    subst this
    rw [bothL_nil]
    exact ⟨fun h => absurd h (in_nil x), fun h => absurd h.1 (in_nil x)⟩
  | succ n ih =>
    intro a b hn c d ha hb x
    cases a with
    | nil => rw [bothL_nil]; exact ⟨fun h => absurd h (in_nil x), fun h => absurd h.1 (in_nil x)⟩
    | cons r a =>
      cases b with
      | nil => rw [bothL_nil']; exact ⟨fun h => absurd h (in_nil x), fun h => absurd h.2 (in_nil x)⟩
      | cons s b =>
        rw [bothL_cons, in_append]
        obtain ⟨a0, a1, a2⟩ := ha
        obtain ⟨b0, b1, b2⟩ := hb
        simp only [List.length_cons] at hn
        have e1 : In (if max r.1 s.1 < min r.2 s.2 then [(max r.1 s.1, min r.2 s.2)] else []) x ↔ (r.1 ≤ x ∧ x < r.2) ∧ (s.1 ≤ x ∧ x < s.2) := by
          split
          · rw [in_one]; show max r.1 s.1 ≤ x ∧ x < min r.2 s.2 ↔ _; omega
          · exact ⟨fun h => absurd h (in_nil x), fun h => by omega⟩
        rw [e1]
        have ga : In a x → r.2 < x := right_above a2
        have gb : In b x → s.2 < x := right_above b2
        by_cases hc : r.2 ≤ s.2
        · rw [if_pos hc, ih a (s :: b) (by simp only [List.length_cons]; omega) r.2 d a2 ⟨b0, b1, b2⟩ x, in_cons, in_cons]
          constructor
          · rintro (h | h)
            · exact ⟨.inl h.1, .inl h.2⟩
            · exact ⟨.inr h.1, h.2⟩
          · rintro ⟨h1 | h1, h2 | h2⟩
            · exact .inl ⟨h1, h2⟩
            · have := gb h2; omega
            · exact .inr ⟨h1, .inl h2⟩
            · exact .inr ⟨h1, .inr h2⟩
        · rw [if_neg hc, ih (r :: a) b (by simp only [List.length_cons]; omega) c s.2 ⟨a0, a1, a2⟩ b2 x, in_cons, in_cons]
          constructor
          · rintro (h | h)
            · exact ⟨.inl h.1, .inl h.2⟩
            · exact ⟨h.1, .inr h.2⟩
          · rintro ⟨h1 | h1, h2 | h2⟩
            · exact .inl ⟨h1, h2⟩
            · exact .inr ⟨.inl h1, h2⟩
            · have := ga h1; omega
            · exact .inr ⟨.inr h1, h2⟩
theorem bothL_len (n : Nat) : ∀ (a b : List R), a.length + b.length ≤ n → (bothL a b).length ≤ a.length + b.length := by
  induction n with
  | zero =>
    intro a b h
    have : a = [] := List.length_eq_zero_iff.1 (by omega)
    subst this
    rw [bothL_nil]; simp
  | succ n ih =>
    intro a b hn
    cases a with
    | nil => rw [bothL_nil]; simp
    | cons r a =>
      cases b with
      | nil => rw [bothL_nil']; simp
      | cons s b =>
        rw [bothL_cons]
        simp only [List.length_cons] at hn
        have h1 := ih a (s :: b) (by simp only [List.length_cons]; omega)
        have h2 := ih (r :: a) b (by simp only [List.length_cons]; omega)
        simp only [List.length_cons] at h1 h2
        rw [List.length_append]
        split <;> split <;> simp only [List.length_cons, List.length_nil] <;> omega
def bothR (a b : List R) : List R := bothL (nl a) (nl b)
theorem bothR_is (a b : List R) : Is (bothR a b) (fun x => 0 ≤ x ∧ In a x ∧ In b x) :=
  ⟨bothL_right _ _ _ (Nat.le_refl _) _ _ _ (nl_is a).1 (nl_is b).1 (.inl (Int.le_refl _)), fun x => by
    unfold bothR
    rw [bothL_in _ _ _ (Nat.le_refl _) _ _ (nl_is a).1 (nl_is b).1 x, (nl_is a).2, (nl_is b).2]
    exact ⟨fun h => ⟨h.1.1, h.1.2, h.2.2⟩, fun h => ⟨⟨h.1, h.2.1⟩, h.1, h.2.2⟩⟩⟩
theorem bothR_len (a b : List R) : (bothR a b).length ≤ a.length + b.length := by
  have := bothL_len _ (nl a) (nl b) (Nat.le_refl _)
  have := nl_len a; have := nl_len b
  unfold bothR; omega
theorem bothR_nn {a b : List R} (h : IR a) : Nn (bothR a b) := (bothR_is a b).nn fun _ hx => h.in_lt hx.2.1
def eitherR (a b : List R) : List R := nl (a ++ b)
theorem eitherR_is (a b : List R) : Is (eitherR a b) (fun x => 0 ≤ x ∧ (In a x ∨ In b x)) := (nl_is (a ++ b)).congr fun x => by rw [in_append]
theorem eitherR_len (a b : List R) : (eitherR a b).length ≤ a.length + b.length := by
  have := nl_len (a ++ b)
  rw [List.length_append] at this
  exact this
theorem eitherR_nn {a b : List R} (h : IR a) (h' : IR b) : Nn (eitherR a b) := nl_nn (h.append h')
/-- A range without a right list's numbers. -/
def cut (f t : Int) : List R → List R
  | [] => [(f, t)]
  | s :: b => if s.1 < t then (if f < s.1 then [(f, s.1)] else []) ++ (if t ≤ s.2 then [] else cut s.2 t b) else [(f, t)]
/-- Those that end ahead of a number left away. -/
def skip (f : Int) : List R → List R
  | [] => []
  | s :: b => if s.2 ≤ f then skip f b else s :: b
def lessL : List R → List R → List R
  | [], _ => []
  | r :: a, b => cut r.1 r.2 (skip r.1 b) ++ lessL a (skip r.1 b)
theorem skip_right (f : Int) (b : List R) : ∀ d, RightF d b → RightF d (skip f b) ∧ ∀ x, f ≤ x → (In (skip f b) x ↔ In b x) := by
  induction b with
  | nil => intro d h; exact ⟨trivial, fun x _ => Iff.rfl⟩
  | cons s b ih =>
    intro d h
    unfold skip
    split
    · obtain ⟨h0, h1, h2⟩ := h
      obtain ⟨i1, i2⟩ := ih s.2 h2
      refine ⟨right_mono i1 (by omega), fun x hx => ?_⟩
      rw [i2 x hx, in_cons]
      exact ⟨.inr, fun h => h.resolve_left (by omega)⟩
    · exact ⟨h, fun x _ => Iff.rfl⟩
theorem skip_len (f : Int) (b : List R) : (skip f b).length ≤ b.length := by
  induction b with
  | nil => exact Nat.le_refl _
  | cons s b ih => unfold skip; split <;> simp only [List.length_cons] <;> omega
/-- The first of those that are left ends behind the number. -/
theorem skip_head (f : Int) (b : List R) : ∀ s b', skip f b = s :: b' → f < s.2 := by
  induction b with
  | nil => intro s b' h; cases h
  | cons r b ih =>
    intro s b' h
    unfold skip at h
    split at h
    · exact ih s b' h
    · cases h; omega
theorem cut_ok (b : List R) : ∀ (f t d : Int), f < t → RightF d b → (∀ s b', b = s :: b' → f < s.2) →
    (∀ e, e < f → RightF e (cut f t b)) ∧ (∀ x, In (cut f t b) x ↔ (f ≤ x ∧ x < t) ∧ ¬ In b x) ∧ (lastTo f (cut f t b) ≤ t ∧ f ≤ lastTo f (cut f t b)) := by
  induction b with
  | nil =>
    intro f t d hft _ _
    refine ⟨fun e he => ⟨he, hft, trivial⟩, fun x => ?_, by show t ≤ t ∧ f ≤ t; omega⟩
    unfold cut
    rw [in_one]
    exact ⟨fun h => ⟨h, in_nil x⟩, fun h => h.1⟩
  | cons s b ih =>
    intro f t d hft hb hh
    obtain ⟨b0, b1, b2⟩ := hb
    have hs := hh s b rfl
    have gb : ∀ x, In b x → s.2 < x := fun x => right_above b2
    unfold cut
    by_cases h1 : s.1 < t
    · rw [if_pos h1]
      have tail : (∀ e, e < s.2 → RightF e (if t ≤ s.2 then [] else cut s.2 t b)) ∧ (∀ x, In (if t ≤ s.2 then [] else cut s.2 t b) x ↔ (s.2 ≤ x ∧ x < t) ∧ ¬ In b x) ∧ ∀ g, f ≤ g → g ≤ s.2 → g ≤ t → lastTo g (if t ≤ s.2 then [] else cut s.2 t b) ≤ t ∧ f ≤ lastTo g (if t ≤ s.2 then [] else cut s.2 t b) := by
        by_cases h2 : t ≤ s.2
        · rw [if_pos h2]
          exact ⟨fun e _ => trivial, fun x => ⟨fun h => absurd h (in_nil x), fun h => by omega⟩, fun g g1 g2 g3 => ⟨g3, g1⟩⟩
        · rw [if_neg h2]
          obtain ⟨i1, i2, i3⟩ := ih s.2 t s.2 (by omega) b2 (fun s' b' e => by subst e; have := b2.1; have := b2.2.1; omega)
          refine ⟨i1, i2, fun g g1 g2 g3 => ?_⟩
          cases hc : cut s.2 t b with
          | nil => exact ⟨g3, g1⟩
          | cons u v => rw [hc] at i3; show lastTo u.2 v ≤ t ∧ f ≤ lastTo u.2 v; simp only [lastTo] at i3; omega
      obtain ⟨t1, t2, t3⟩ := tail
      refine ⟨fun e he => ?_, fun x => ?_, ?_⟩
      · by_cases h3 : f < s.1
        · rw [if_pos h3]
          exact ⟨he, h3, t1 _ b1⟩
        · rw [if_neg h3]
          exact t1 e (by omega)
      · rw [in_append, t2, in_cons]
        have e1 : In (if f < s.1 then [(f, s.1)] else []) x ↔ f ≤ x ∧ x < s.1 := by
          split
          · rw [in_one]
          · exact ⟨fun h => absurd h (in_nil x), fun h => by omega⟩
        rw [e1]
        constructor
        · rintro (h | ⟨h, h'⟩)
          · refine ⟨by omega, ?_⟩
            rintro (h'' | h'')
            · omega
            · have := gb x h''; omega
          · refine ⟨by omega, ?_⟩
            rintro (h'' | h'')
            · omega
            · exact h' h''
        · rintro ⟨h, h'⟩
          by_cases hx : x < s.1
          · exact .inl ⟨h.1, hx⟩
          · right
            refine ⟨⟨?_, h.2⟩, fun hb => h' (.inr hb)⟩
            have : ¬ (s.1 ≤ x ∧ x < s.2) := fun h'' => h' (.inl h'')
            omega
      · by_cases h3 : f < s.1
        · rw [if_pos h3]
          exact t3 s.1 (by omega) (by omega) (by omega)
        · rw [if_neg h3]
          exact t3 f (Int.le_refl _) (by omega) (by omega)
    · rw [if_neg h1]
      refine ⟨fun e he => ⟨he, hft, trivial⟩, fun x => ?_, by show t ≤ t ∧ f ≤ t; omega⟩
      rw [in_one]
      refine ⟨fun h => ⟨h, fun hb => ?_⟩, fun h => h.1⟩
      rcases (in_cons s b x).1 hb with hb | hb
      · simp only at h; omega
      · have := gb x hb; simp only at h; omega
theorem lessL_ok (a : List R) : ∀ (b : List R) (c d : Int), RightF c a → RightF d b → RightF c (lessL a b) ∧ ∀ x, In (lessL a b) x ↔ In a x ∧ ¬ In b x := by
  induction a with
  | nil => intro b c d _ _; exact ⟨trivial, fun x => ⟨fun h => absurd h (in_nil x), fun h => absurd h.1 (in_nil x)⟩⟩
  | cons r a ih =>
    intro b c d ha hb
    obtain ⟨a0, a1, a2⟩ := ha
    obtain ⟨s1, s2⟩ := skip_right r.1 b d hb
    obtain ⟨c1, c2, c3⟩ := cut_ok (skip r.1 b) r.1 r.2 d a1 s1 (skip_head r.1 b)
    obtain ⟨i1, i2⟩ := ih (skip r.1 b) r.2 d a2 s1
    unfold lessL
    refine ⟨?_, fun x => ?_⟩
    · rw [right_append]
      refine ⟨c1 c a0, right_mono i1 ?_⟩
      cases hc : cut r.1 r.2 (skip r.1 b) with
      | nil => show c ≤ r.2; omega
      | cons u v => rw [hc] at c3; simp only [lastTo] at c3 ⊢; exact c3.1
    · rw [in_append, c2, i2, in_cons]
      have ga : In a x → r.2 < x := right_above a2
      constructor
      · rintro (⟨h, h'⟩ | ⟨h, h'⟩)
        · exact ⟨.inl h, fun hb => h' ((s2 x h.1).2 hb)⟩
        · exact ⟨.inr h, fun hb => h' ((s2 x (by have := ga h; omega)).2 hb)⟩
      · rintro ⟨h | h, h'⟩
        · exact .inl ⟨h, fun hb => h' ((s2 x h.1).1 hb)⟩
        · exact .inr ⟨h, fun hb => h' ((s2 x (by have := ga h; omega)).1 hb)⟩
theorem cut_len (b : List R) : ∀ f t, (cut f t b).length ≤ b.length + 1 := by
  induction b with
  | nil => intro f t; exact Nat.le_refl _
  | cons s b ih =>
    intro f t
    have := ih s.2 t
    unfold cut
    split
    · rw [List.length_append]
      split <;> split <;> simp only [List.length_cons, List.length_nil] <;> omega
    · simp
theorem lessL_len (a : List R) : ∀ b, (lessL a b).length ≤ a.length * (b.length + 1) := by
  induction a with
  | nil => intro b; simp [lessL]
  | cons r a ih =>
    intro b
    have h1 := cut_len (skip r.1 b) r.1 r.2
    have h2 := skip_len r.1 b
    have h3 := ih (skip r.1 b)
    have h4 : a.length * ((skip r.1 b).length + 1) ≤ a.length * (b.length + 1) := Nat.mul_le_mul_left _ (by omega)
    unfold lessL
    rw [List.length_append, List.length_cons, Nat.add_mul]
    omega
def lessR (a b : List R) : List R := lessL (nl a) (nl b)
theorem lessR_is (a b : List R) : Is (lessR a b) (fun x => 0 ≤ x ∧ In a x ∧ ¬ In b x) := by
  obtain ⟨h1, h2⟩ := lessL_ok (nl a) (nl b) _ _ (nl_is a).1 (nl_is b).1
  refine ⟨h1, fun x => ?_⟩
  unfold lessR
  rw [h2, (nl_is a).2, (nl_is b).2]
  exact ⟨fun h => ⟨h.1.1, h.1.2, fun hb => h.2 ⟨h.1.1, hb⟩⟩, fun h => ⟨⟨h.1, h.2.1⟩, fun hb => h.2.2 hb.2⟩⟩
theorem lessR_nn {a b : List R} (h : IR a) : Nn (lessR a b) := (lessR_is a b).nn fun _ hx => h.in_lt hx.2.1
/-- How many numbers there are. -/
def tot : List R → Int
  | [] => 0
  | r :: l => (r.2 - r.1) + tot l
theorem tot_snoc (l : List R) (r : R) : tot (l ++ [r]) = tot l + (r.2 - r.1) := by
  induction l with
  | nil => simp [tot]
  | cons a l ih => simp only [List.cons_append, tot, ih]; omega
theorem tot_le (l : List R) : ∀ a, RightF a l → 0 ≤ tot l ∧ a + tot l ≤ lastTo a l := by
  induction l with
  | nil => intro a _; exact ⟨Int.le_refl _, by simp [tot, lastTo]⟩
  | cons r l ih =>
    intro a h
    obtain ⟨h0, h1, h2⟩ := h
    have := ih r.2 h2
    simp only [tot, lastTo]
    omega
theorem tot_bound {l : List R} (h : Right l) (hn : Nn l) : 0 ≤ tot l ∧ tot l ≤ 9223372036854775807 := by
  cases l with
  | nil => simp [tot]
  | cons r l =>
    have h2 := tot_le l r.2 h.2.2
    have h1 := hn r (List.mem_cons_self ..)
    have h3 : lastTo r.2 l ≤ 9223372036854775807 := by
      rcases List.eq_nil_or_concat l with rfl | ⟨l', s, rfl⟩
      · exact h1.2.2
      · rw [List.concat_eq_append, lastTo_snoc]; exact (hn s (by simp)).2.2
    simp only [tot]
    omega
end Go.Proofs.YtblibmalommdkaaGreat

/-
  Sets of numbers as lists of ranges, plain: all ends of lists; the right list of a mix; how many numbers there are; where so many fit.
-/
namespace Go.Proofs.YtblibmalommdkaaGreat
/-- A number into a rising list. -/
def ins (n : Int) : List Int → List Int
  | [] => [n]
  | x :: l => if n < x then n :: x :: l else x :: ins n l
def putL (l : List Int) (n : Int) : List Int := if n < 0 then l else if n ∈ l then l else ins n l
theorem ins_len (n : Int) (l : List Int) : (ins n l).length = l.length + 1 := by
  induction l with
  | nil => rfl
  | cons x l ih => unfold ins; split <;> simp [ih]
theorem ins_mem (n : Int) (l : List Int) (y : Int) : y ∈ ins n l ↔ y = n ∨ y ∈ l := by
  induction l with
  | nil => simp [ins]
  | cons x l ih =>
    unfold ins
    split
    · simp
    · simp only [List.mem_cons, ih]
      constructor
      · rintro (h | h | h) <;> simp [h]
      · rintro (h | h | h) <;> simp [h]
def Rise (l : List Int) : Prop := l.Pairwise (· < ·)
theorem ins_rise (n : Int) (l : List Int) (h : Rise l) (hn : n ∉ l) : Rise (ins n l) := by
  induction l with
  | nil => exact List.pairwise_singleton _ _
  | cons x l ih =>
    obtain ⟨h1, h2⟩ := List.pairwise_cons.1 h
    unfold ins
    split
    · rename_i hx
      refine List.pairwise_cons.2 ⟨fun y hy => ?_, h⟩
      rcases List.mem_cons.1 hy with rfl | hy
      · exact hx
      · have := h1 y hy; omega
    · rename_i hx
      refine List.pairwise_cons.2 ⟨fun y hy => ?_, ih h2 (fun hh => hn (List.mem_cons_of_mem _ hh))⟩
      rcases (ins_mem n l y).1 hy with rfl | hy
      · have : y ≠ x := fun e => hn (by rw [e]; exact List.mem_cons_self ..)
        omega
      · exact h1 y hy
theorem putL_len (l : List Int) (n : Int) : (putL l n).length ≤ l.length + 1 := by
  unfold putL
  split
  · omega
  · split
    · omega
    · rw [ins_len]; exact Nat.le_refl _
/-- A rising list of numbers from 0 on, with 0 at its head. -/
def Mk (l : List Int) : Prop := Rise l ∧ l.head? = some 0
theorem putL_mk {l : List Int} (h : Mk l) (n : Int) : Mk (putL l n) := by
  unfold putL
  split
  · exact h
  · rename_i h0
    split
    · exact h
    · rename_i h1
      refine ⟨ins_rise n l h.1 h1, ?_⟩
      cases l with
      | nil => exact absurd h.2 (by simp)
      | cons x l =>
        have hx : x = 0 := by simpa using h.2
        subst hx
        unfold ins
        rw [if_neg h0]; rfl
theorem putL_mem (l : List Int) (n y : Int) : y ∈ putL l n ↔ y ∈ l ∨ (y = n ∧ 0 ≤ n) := by
  unfold putL
  split
  · exact ⟨.inl, fun h => h.resolve_right (by omega)⟩
  · rename_i h0
    split
    · rename_i h1
      refine ⟨.inl, fun h => ?_⟩
      rcases h with h | ⟨rfl, _⟩
      · exact h
      · exact h1
    · rw [ins_mem]
      constructor
      · rintro (h | h)
        · exact .inr ⟨h, by omega⟩
        · exact .inl h
      · rintro (h | ⟨h, _⟩)
        · exact .inr h
        · exact .inl h
def ends (o : List Int) (l : List R) : List Int := l.foldl (fun o r => putL (putL o r.1) r.2) o
theorem ends_snoc (o : List Int) (l : List R) (r : R) : ends o (l ++ [r]) = putL (putL (ends o l) r.1) r.2 := by simp [ends]
theorem ends_append (o : List Int) (l m : List R) : ends o (l ++ m) = ends (ends o l) m := by simp [ends]
theorem ends_mk {o : List Int} (h : Mk o) (l : List R) : Mk (ends o l) := by
  induction l generalizing o with
  | nil => exact h
  | cons r l ih => exact ih (putL_mk (putL_mk h _) _)
theorem ends_mem (o : List Int) (l : List R) (y : Int) : y ∈ ends o l ↔ y ∈ o ∨ ∃ r ∈ l, (y = r.1 ∨ y = r.2) ∧ 0 ≤ y := by
  induction l generalizing o with
  | nil => simp [ends]
  | cons r l ih =>
    show y ∈ ends (putL (putL o r.1) r.2) l ↔ _
    rw [ih, putL_mem, putL_mem]
    constructor
    · rintro (((h | h) | h) | ⟨s, hs, h⟩)
      · exact .inl h
      · exact .inr ⟨r, List.mem_cons_self .., .inl h.1, by omega⟩
      · exact .inr ⟨r, List.mem_cons_self .., .inr h.1, by omega⟩
      · exact .inr ⟨s, List.mem_cons_of_mem _ hs, h⟩
    · rintro (h | ⟨s, hs, h, h0⟩)
      · exact .inl (.inl (.inl h))
      · rcases List.mem_cons.1 hs with rfl | hs
        · rcases h with h | h
          · exact .inl (.inl (.inr ⟨h, by omega⟩))
          · exact .inl (.inr ⟨h, by omega⟩)
        · exact .inr ⟨s, hs, h, h0⟩
theorem ends_len (o : List Int) (l : List R) : (ends o l).length ≤ o.length + 2 * l.length := by
  induction l generalizing o with
  | nil => exact Nat.le_refl _
  | cons r l ih =>
    have h1 := ih (putL (putL o r.1) r.2)
    have h2 := putL_len (putL o r.1) r.2
    have h3 := putL_len o r.1
    show (ends (putL (putL o r.1) r.2) l).length ≤ _
    simp only [List.length_cons]; omega
def marksL (a b : List R) : List Int := ends (ends [0] a) b
theorem marksL_mk (a b : List R) : Mk (marksL a b) := ends_mk (ends_mk ⟨List.pairwise_singleton _ _, rfl⟩ a) b
theorem marksL_len (a b : List R) : (marksL a b).length ≤ 1 + 2 * a.length + 2 * b.length := by
  have h1 := ends_len (ends [0] a) b
  have h2 := ends_len [0] a
  simp only [List.length_cons, List.length_nil] at h2
  unfold marksL; omega
theorem marksL_mem (a b : List R) (y : Int) (h0 : 0 ≤ y) (h : ∃ r, (r ∈ a ∨ r ∈ b) ∧ (y = r.1 ∨ y = r.2)) : y ∈ marksL a b := by
  obtain ⟨r, hr, h⟩ := h
  unfold marksL
  rw [ends_mem, ends_mem]
  rcases hr with hr | hr
  · exact .inl (.inr ⟨r, hr, h, h0⟩)
  · exact .inr ⟨r, hr, h, h0⟩
theorem mk_nonneg {l : List Int} (h : Mk l) {y : Int} (hy : y ∈ l) : 0 ≤ y := by
  cases l with
  | nil => cases hy
  | cons x l =>
    have hx : x = 0 := by simpa using h.2
    subst hx
    rcases List.mem_cons.1 hy with rfl | hy
    · exact Int.le_refl _
    · exact Int.le_of_lt ((List.pairwise_cons.1 h.1).1 y hy)
theorem marksL_i64 {a b : List R} (ha : IR a) (hb : IR b) {y : Int} (hy : y ∈ marksL a b) : 0 ≤ y ∧ y ≤ 9223372036854775807 := by
  refine ⟨mk_nonneg (marksL_mk a b) hy, ?_⟩
  unfold marksL at hy
  rw [ends_mem, ends_mem] at hy
  rcases hy with (hy | ⟨r, hr, h, _⟩) | ⟨r, hr, h, _⟩
  · simp at hy; omega
  · have := ha r hr; unfold I64 at this; omega
  · have := hb r hr; unfold I64 at this; omega
/-- Between two marks that are next to each other a number is as the mark ahead of it. -/
theorem marks_const {a b : List R} {l : List R} (hl : l = a ∨ l = b) {u x : Int} (hu : u ∈ marksL a b) (hx : u ≤ x) (hg : ∀ v ∈ marksL a b, v ≤ x → v ≤ u) : In l u ↔ In l x := by
  have h0 := mk_nonneg (marksL_mk a b) hu
  have hm : ∀ r ∈ l, r ∈ a ∨ r ∈ b := fun r hr => hl.elim (fun e => .inl (e ▸ hr)) (fun e => .inr (e ▸ hr))
  constructor
  · rintro ⟨r, hr, h1, h2⟩
    refine ⟨r, hr, by omega, ?_⟩
    by_cases hc : x < r.2
    · exact hc
    · have := hg r.2 (marksL_mem a b _ (by omega) ⟨r, hm r hr, .inr rfl⟩) (by omega); omega
  · rintro ⟨r, hr, h1, h2⟩
    refine ⟨r, hr, ?_, by omega⟩
    by_cases hc : 0 ≤ r.1
    · exact hg r.1 (marksL_mem a b _ hc ⟨r, hm r hr, .inl rfl⟩) h1
    · omega
theorem marks_last {a b : List R} {l : List R} (hl : l = a ∨ l = b) {x : Int} (h0 : 0 ≤ x) (hg : ∀ v ∈ marksL a b, v ≤ x) : ¬ In l x := by
  rintro ⟨r, hr, h1, h2⟩
  have hm : r ∈ a ∨ r ∈ b := hl.elim (fun e => .inl (e ▸ hr)) (fun e => .inr (e ▸ hr))
  have := hg r.2 (marksL_mem a b _ (by omega) ⟨r, hm, .inr rfl⟩)
  omega
/-- The pieces between the marks that are to be had. -/
def selL (c : Int → Bool) : List Int → List R
  | u :: v :: m => (if c u then [(u, v)] else []) ++ selL c (v :: m)
  | _ => []
theorem selL_one (c : Int → Bool) (u : Int) : selL c [u] = [] := rfl
theorem selL_cons (c : Int → Bool) (u v : Int) (m : List Int) : selL c (u :: v :: m) = (if c u then [(u, v)] else []) ++ selL c (v :: m) := rfl
theorem selL_ok (c : Int → Bool) (m : List Int) : Rise m → ∀ u, m.head? = some u → (∀ r ∈ selL c m, u ≤ r.1 ∧ r.1 < r.2) ∧ (selL c m).Pairwise (fun a b => a.1 ≤ b.1) := by
  induction m with
  | nil => intro _ u h; cases h
  | cons w m ih =>
    intro hr u hu
    obtain rfl : w = u := by simpa using hu
    cases m with
    | nil => exact ⟨fun r hr => (by cases hr), List.Pairwise.nil⟩
    | cons v m =>
      obtain ⟨h1, h2⟩ := List.pairwise_cons.1 hr
      have hwv := h1 v (List.mem_cons_self ..)
      obtain ⟨i1, i2⟩ := ih h2 v rfl
      rw [selL_cons]
      refine ⟨fun r hr => ?_, ?_⟩
      · rcases List.mem_append.1 hr with hr | hr
        · split at hr
          · simp at hr; subst hr; exact ⟨Int.le_refl _, hwv⟩
          · cases hr
        · have := i1 r hr; omega
      · split
        · refine List.pairwise_cons.2 ⟨fun r hr => ?_, i2⟩
          have := i1 r hr; show w ≤ r.1; omega
        · exact i2
theorem selL_in (c : Int → Bool) (P : Int → Prop) (m : List Int) : Rise m → ∀ u0, m.head? = some u0 → (∀ u ∈ m, ∀ x, u ≤ x → (∀ v ∈ m, v ≤ x → v ≤ u) → (c u = true ↔ P x)) → (∀ x, u0 ≤ x → (∀ v ∈ m, v ≤ x) → ¬ P x) →
    ∀ x, u0 ≤ x → (In (selL c m) x ↔ P x) := by
  induction m with
  | nil => intro _ u h; cases h
  | cons w m ih =>
    intro hr u hu hc hl x hx
    obtain rfl : w = u := by simpa using hu
    cases m with
    | nil => exact ⟨fun h => absurd h (in_nil x), fun h => absurd h (hl x hx (fun v hv => by simp at hv; omega))⟩
    | cons v m =>
      obtain ⟨h1, h2⟩ := List.pairwise_cons.1 hr
      have hwv := h1 v (List.mem_cons_self ..)
      rw [selL_cons, in_append]
      by_cases hxv : x < v
      · have hb : ∀ y ∈ v :: m, x < y := fun y hy => by
          rcases List.mem_cons.1 hy with rfl | hy
          · exact hxv
          · have := (List.pairwise_cons.1 h2).1 y hy; omega
        have e := hc w (List.mem_cons_self ..) x hx (fun y hy hyx => by
          rcases List.mem_cons.1 hy with rfl | hy
          · exact Int.le_refl _
          · have := hb y hy; omega)
        have hno : ¬ In (selL c (v :: m)) x := by
          rintro ⟨r, hr, h3, _⟩
          have := ((selL_ok c (v :: m) h2 v rfl).1 r hr).1
          omega
        rw [← e]
        constructor
        · rintro (h | h)
          · split at h
            · assumption
            · exact absurd h (in_nil x)
          · exact absurd h hno
        · intro h
          left
          rw [if_pos h, in_one]
          exact ⟨hx, hxv⟩
      · have hvx : v ≤ x := by omega
        have i := ih h2 v rfl (fun y hy z hz hg => hc y (List.mem_cons_of_mem _ hy) z hz (fun t ht htz => by
            rcases List.mem_cons.1 ht with rfl | ht
            · have : v ≤ y := by
                rcases List.mem_cons.1 hy with rfl | hy
                · exact Int.le_refl _
                · exact Int.le_of_lt ((List.pairwise_cons.1 h2).1 y hy)
              omega
            · exact hg t ht htz)) (fun z hz hg => hl z (by omega) (fun t ht => by
            rcases List.mem_cons.1 ht with rfl | ht
            · omega
            · exact hg t ht)) x hvx
        rw [i]
        constructor
        · rintro (h | h)
          · split at h
            · have := ((in_one _ _).1 h).2; simp only at this; omega
            · exact absurd h (in_nil x)
          · exact h
        · exact .inr
def mixW (way : Int) (a b : List R) (x : Int) : Prop := (way = 0 ∧ (In a x ∨ In b x)) ∨ (way = 1 ∧ In a x ∧ In b x) ∨ (way = 2 ∧ In a x ∧ ¬ In b x)
/-- The right list of a mix. -/
def mixL (c : Int → Bool) (a b : List R) : List R := (selL c (marksL a b)).foldl mstep []
theorem mixL_is (way : Int) (a b : List R) (c : Int → Bool) (hc : ∀ u, 0 ≤ u → (c u = true ↔ mixW way a b u)) : Is (mixL c a b) (fun x => 0 ≤ x ∧ mixW way a b x) := by
  have hm := marksL_mk a b
  obtain ⟨o1, o2⟩ := selL_ok c _ hm.1 0 hm.2
  obtain ⟨h1, h2⟩ := merge_ok (selL c (marksL a b)) o2 o1 [] trivial (fun s hs => by simp at hs)
  refine ⟨h1, fun x => ?_⟩
  show In (mixL c a b) x ↔ 0 ≤ x ∧ mixW way a b x
  unfold mixL
  rw [h2]
  have hn : In [] x ∨ In (selL c (marksL a b)) x ↔ In (selL c (marksL a b)) x := ⟨fun h => h.resolve_left (in_nil x), .inr⟩
  rw [hn]
  by_cases h0 : 0 ≤ x
  · rw [selL_in c (mixW way a b) _ hm.1 0 hm.2 (fun u hu x hx hg => ?_) (fun x hx hg => ?_) x h0]
    · exact ⟨fun h => ⟨h0, h⟩, fun h => h.2⟩
    · rw [hc u (mk_nonneg hm hu)]
      unfold mixW
      rw [marks_const (l := a) (.inl rfl) hu hx hg, marks_const (l := b) (.inr rfl) hu hx hg]
    · have ha := marks_last (l := a) (.inl rfl) hx hg
      have hb := marks_last (l := b) (.inr rfl) hx hg
      unfold mixW
      rintro (⟨_, h | h⟩ | ⟨_, h, _⟩ | ⟨_, h, _⟩)
      · exact ha h
      · exact hb h
      · exact ha h
      · exact ha h
  · refine ⟨?_, fun h => absurd h.1 h0⟩
    rintro ⟨r, hr, h3, _⟩
    have := (o1 r hr).1
    omega
theorem selL_len (c : Int → Bool) (m : List Int) : (selL c m).length ≤ m.length := by
  induction m with
  | nil => exact Nat.le_refl _
  | cons u m ih =>
    cases m with
    | nil => exact Nat.zero_le _
    | cons v m =>
      rw [selL_cons, List.length_append]
      split <;> simp only [List.length_cons, List.length_nil] at ih ⊢ <;> omega
theorem mixL_len (c : Int → Bool) (a b : List R) : (mixL c a b).length ≤ 1 + 2 * a.length + 2 * b.length := by
  have h1 := fold_len (selL c (marksL a b)) []
  have h2 := selL_len c (marksL a b)
  have h3 := marksL_len a b
  simp only [List.length_nil] at h1
  unfold mixL; omega
end Go.Proofs.YtblibmalommdkaaGreat

/-
  Sets of numbers as lists of ranges, plain: how many numbers there are; where so many fit; lists moved up.
-/
namespace Go.Proofs.YtblibmalommdkaaGreat
open Classical
/-- How many numbers below n there are. -/
noncomputable def cnt (p : Int → Prop) : Nat → Int
  | 0 => 0
  | n+1 => cnt p n + (if p n then 1 else 0)
theorem cnt_congr {p q : Int → Prop} (n : Nat) (h : ∀ x : Int, 0 ≤ x → (p x ↔ q x)) : cnt p n = cnt q n := by
  induction n with
  | zero => rfl
  | succ n ih => simp only [cnt, ih, h n (by omega)]
theorem cnt_both (p q : Int → Prop) (n : Nat) : cnt (fun x => p x ∨ q x) n + cnt (fun x => p x ∧ q x) n = cnt p n + cnt q n := by
  induction n with
  | zero => rfl
  | succ n ih =>
    simp only [cnt]
    by_cases h1 : p n <;> by_cases h2 : q n <;> simp [h1, h2] <;> omega
theorem cnt_none (n : Nat) (p : Int → Prop) (h : ∀ x : Int, 0 ≤ x → x < n → ¬ p x) : cnt p n = 0 := by
  induction n with
  | zero => rfl
  | succ n ih => simp only [cnt]; rw [ih (fun x h0 h1 => h x h0 (by omega)), if_neg (h n (by omega) (by omega))]; rfl
theorem cnt_mono (p : Int → Prop) (m n : Nat) (hmn : m ≤ n) (h : ∀ x : Int, m ≤ x → ¬ p x) : cnt p n = cnt p m := by
  induction n with
  | zero => have : m = 0 := by omega
            subst this; rfl
  | succ n ih =>
    rcases Nat.lt_or_ge m (n+1) with hlt | hge
    · simp only [cnt]; rw [ih (by omega), if_neg (h n (by omega))]; omega
    · have : m = n + 1 := by omega
      subst this; rfl
theorem cnt_range (a b : Nat) (n : Nat) (hab : a ≤ b) (hb : b ≤ n) : cnt (fun x => (a : Int) ≤ x ∧ x < b) n = (b : Int) - a := by
  have h1 : ∀ k, a + k ≤ b → cnt (fun x => (a : Int) ≤ x ∧ x < b) (a + k) = (k : Int) := by
    intro k
    induction k with
    | zero => intro _; exact cnt_none _ _ (fun x h0 h1 h => by omega)
    | succ k ih =>
      intro hk
      rw [show a + (k + 1) = (a + k) + 1 from rfl]
      simp only [cnt]
      rw [ih (by omega), if_pos ⟨by omega, by omega⟩]; omega
  have h2 := h1 (b - a) (by omega)
  rw [show a + (b - a) = b by omega] at h2
  rw [cnt_mono _ b n hb (fun x hx h => by omega), h2]; omega
theorem tot_cnt (l : List R) : ∀ a, RightF a l → -1 ≤ a → ∀ n : Nat, (∀ r ∈ l, r.2 ≤ n) → tot l = cnt (In l) n := by
  induction l with
  | nil => intro a _ _ n _; exact (cnt_none n _ (fun x _ _ => in_nil x)).symm
  | cons r l ih =>
    intro a h ha n hn
    obtain ⟨h0, h1, h2⟩ := h
    have i := ih r.2 h2 (by omega) n (fun s hs => hn s (List.mem_cons_of_mem _ hs))
    have hr := hn r (List.mem_cons_self ..)
    have e1 := cnt_both (fun x => r.1 ≤ x ∧ x < r.2) (In l) n
    have e2 : cnt (fun x => (r.1 ≤ x ∧ x < r.2) ∧ In l x) n = 0 := cnt_none n _ (fun x _ _ h => by have := right_above h2 h.2; omega)
    have e3 := cnt_range r.1.toNat r.2.toNat n (by omega) (by omega)
    have e4 : cnt (fun x => r.1 ≤ x ∧ x < r.2) n = r.2 - r.1 := by
      rw [cnt_congr (q := fun x => (r.1.toNat : Int) ≤ x ∧ x < r.2.toNat) n (fun x _ => by omega), e3]; omega
    have e5 : cnt (In (r :: l)) n = cnt (fun x => (r.1 ≤ x ∧ x < r.2) ∨ In l x) n := cnt_congr n (fun x _ => in_cons r l x)
    simp only [tot]
    omega
theorem Is.tot {m : List R} {p : Int → Prop} (h : Is m p) (n : Nat) (hn : ∀ r ∈ m, r.2 ≤ n) : tot m = cnt p n := by
  rw [tot_cnt m _ h.1 (Int.le_refl _) n hn]
  exact cnt_congr n fun x _ => h.2 x
theorem Nn.to {l : List R} (h : Nn l) {N : Nat} (hN : N = 9223372036854775807) : ∀ r ∈ l, r.2 ≤ (N : Int) := fun r hr => by have := (h r hr).2.2; omega
/-- What both have and what either has are together as many as each has. -/
theorem tot_sets {a b : List R} (ha : IR a) (hb : IR b) : tot (eitherR a b) + tot (bothR a b) = tot (nl a) + tot (nl b) := by
  obtain ⟨N, hN⟩ : ∃ N : Nat, N = 9223372036854775807 := ⟨_, rfl⟩
  rw [(eitherR_is a b).tot _ ((eitherR_nn ha hb).to hN), (bothR_is a b).tot _ ((bothR_nn ha).to hN), (nl_is a).tot _ ((nl_nn ha).to hN), (nl_is b).tot _ ((nl_nn hb).to hN)]
  refine Eq.trans ?_ (cnt_both _ _ N)
  congr 1
  · exact cnt_congr _ fun x h0 => ⟨fun h => h.2.elim (fun h => .inl ⟨h0, h⟩) (fun h => .inr ⟨h0, h⟩), fun h => ⟨h0, h.elim (fun h => .inl h.2) (fun h => .inr h.2)⟩⟩
  · exact cnt_congr _ fun x h0 => ⟨fun h => ⟨⟨h0, h.2.1⟩, h0, h.2.2⟩, fun h => ⟨h0, h.1.2, h.2.2⟩⟩
theorem tot_less {a b : List R} (ha : IR a) : tot (lessR a b) + tot (bothR a b) = tot (nl a) := by
  obtain ⟨N, hN⟩ : ∃ N : Nat, N = 9223372036854775807 := ⟨_, rfl⟩
  rw [(lessR_is a b).tot _ ((lessR_nn ha).to hN), (bothR_is a b).tot _ ((bothR_nn ha).to hN), (nl_is a).tot _ ((nl_nn ha).to hN)]
  have h2 := cnt_both (fun x => 0 ≤ x ∧ In a x ∧ ¬ In b x) (fun x => 0 ≤ x ∧ In a x ∧ In b x) N
  rw [← h2]
  have h1 := cnt_none N (fun x => (0 ≤ x ∧ In a x ∧ ¬ In b x) ∧ (0 ≤ x ∧ In a x ∧ In b x)) (fun x _ _ h => h.1.2.2 h.2.2.2)
  rw [h1, Int.add_zero]
  refine cnt_congr _ fun x h0 => ⟨fun h => ?_, fun h => ?_⟩
  · rcases h with h | h
    · exact ⟨h0, h.2.1⟩
    · exact ⟨h0, h.2.1⟩
  · by_cases hb : In b x
    · exact .inr ⟨h0, h.2, hb⟩
    · exact .inl ⟨h0, h.2, hb⟩
theorem tot_small {l : List R} (h : ∀ r ∈ l, r.2 ≤ 400) : tot (nl l) = cnt (fun x => 0 ≤ x ∧ In l x) 400 := by
  refine (nl_is l).tot 400 fun r hr => ?_
  have h1 := right_mem (nl_is l).1 hr
  obtain ⟨_, s, hs, h2, h3⟩ := ((nl_is l).2 (r.2 - 1)).1 ⟨r, hr, by omega, by omega⟩
  have := h s hs
  omega
/-- Where so many numbers fit. -/
def fitL (m : List R) (n : Int) : Option Int := (m.find? fun r => decide (n ≤ r.2 - r.1)).map (·.1)
def fitV (m : List R) (n : Int) : Option Int := if n < 1 then none else fitL m n
/-- Numbers one behind the other are in one range of a right list. -/
theorem right_run (m : List R) : ∀ a, RightF a m → ∀ f n : Int, 1 ≤ n → (∀ x, f ≤ x → x < f + n → In m x) → ∃ r ∈ m, r.1 ≤ f ∧ f + n ≤ r.2 := by
  induction m with
  | nil => intro a _ f n hn h; exact absurd (h f (Int.le_refl _) (by omega)) (in_nil f)
  | cons r m ih =>
    intro a hr f n hn h
    obtain ⟨h0, h1, h2⟩ := hr
    have gm : ∀ x, In m x → r.2 < x := fun x => right_above h2
    rcases (in_cons r m f).1 (h f (Int.le_refl _) (by omega)) with hf | hf
    · refine ⟨r, List.mem_cons_self .., hf.1, ?_⟩
      by_cases hc : f + n ≤ r.2
      · exact hc
      · rcases (in_cons r m r.2).1 (h r.2 (by omega) (by omega)) with h3 | h3
        · omega
        · have := gm _ h3; omega
    · have := gm _ hf
      obtain ⟨s, hs, h3⟩ := ih r.2 h2 f n hn (fun x hx hxn => ((in_cons r m x).1 (h x hx hxn)).resolve_left (by omega))
      exact ⟨s, List.mem_cons_of_mem _ hs, h3⟩
/-- Ahead of the first range with so many numbers no so many are one behind the other. -/
theorem fit_first (m : List R) : ∀ a, RightF a m → ∀ (n at_ : Int), fitL m n = some at_ →
    (∃ r ∈ m, r.1 = at_ ∧ n ≤ r.2 - r.1) ∧ ∀ s ∈ m, s.1 < at_ → s.2 - s.1 < n ∧ s.2 < at_ := by
  induction m with
  | nil => intro a _ n at_ h; simp [fitL] at h
  | cons r m ih =>
    intro a hr n at_ h
    obtain ⟨h0, h1, h2⟩ := hr
    unfold fitL at h
    rw [List.find?_cons] at h
    by_cases hc : n ≤ r.2 - r.1
    · simp [hc] at h
      subst h
      refine ⟨⟨r, List.mem_cons_self .., rfl, hc⟩, fun s hs hlt => ?_⟩
      rcases List.mem_cons.1 hs with rfl | hs
      · omega
      · have := right_mem h2 hs; omega
    · simp [hc] at h
      obtain ⟨⟨s, hs, e1, e2⟩, i2⟩ := ih r.2 h2 n at_ (by unfold fitL; simpa using h)
      refine ⟨⟨s, List.mem_cons_of_mem _ hs, e1, e2⟩, fun t ht hlt => ?_⟩
      rcases List.mem_cons.1 ht with rfl | ht
      · have := right_mem h2 hs; omega
      · exact i2 t ht hlt
theorem fit_none {m : List R} {n : Int} (h : fitL m n = none) : ∀ r ∈ m, r.2 - r.1 < n := by
  intro r hr
  unfold fitL at h
  rw [Option.map_eq_none_iff, List.find?_eq_none] at h
  have := h r hr
  simp at this
  exact this
theorem fit_has {l : List R} {n at_ : Int} (hn : 1 ≤ n) (h : fitL (nl l) n = some at_) : 0 ≤ at_ ∧ (∀ x, at_ ≤ x → x < at_ + n → In l x) ∧ ¬ (0 ≤ at_ - 1 ∧ In l (at_ - 1)) ∧ fitL (bothR l [(0, at_)]) n = none := by
  have hi := nl_is l
  obtain ⟨⟨r, hr, e1, e2⟩, h2⟩ := fit_first (nl l) _ hi.1 n at_ h
  have hm := right_mem hi.1 hr
  subst e1
  refine ⟨by omega, fun x h3 h4 => ((hi.2 x).1 ⟨r, hr, h3, by omega⟩).2, fun hx => ?_, ?_⟩
  · obtain ⟨s, hs, h3, h4⟩ := (hi.2 (r.1 - 1)).2 hx
    have := h2 s hs (by omega)
    omega
  · unfold fitL
    rw [Option.map_eq_none_iff, List.find?_eq_none]
    intro t ht
    simp
    by_cases hc : t.2 - t.1 < n
    · exact hc
    · have hb := bothR_is l [(0, r.1)]
      have hin : ∀ x, t.1 ≤ x → x < t.2 → 0 ≤ x ∧ In l x ∧ In [(0, r.1)] x := fun x h5 h6 => (hb.2 x).1 ⟨t, ht, h5, h6⟩
      obtain ⟨s, hs, h7, h8⟩ := right_run (nl l) _ hi.1 t.1 n hn (fun x h5 h6 => (hi.2 x).2 ⟨(hin x h5 (by omega)).1, (hin x h5 (by omega)).2.1⟩)
      have h9 := (in_one _ _).1 (hin t.1 (Int.le_refl _) (by omega)).2.2
      have := h2 s hs (by omega)
      omega
theorem fit_not {l : List R} {n : Int} (hn : 1 ≤ n) (h : fitL (nl l) n = none) : ∀ r ∈ l, 0 ≤ r.1 → r.2 - r.1 < n := by
  intro r hr h0
  by_cases hc : r.2 - r.1 < n
  · exact hc
  · obtain ⟨s, hs, h1, h2⟩ := right_run (nl l) _ (nl_is l).1 r.1 n hn (fun x h3 h4 => ((nl_is l).2 x).2 ⟨by omega, r, hr, h3, by omega⟩)
    have := fit_none h s hs
    omega
/-- A list moved up. -/
def mv (by_ : Int) (l : List R) : List R := l.map fun r => (r.1 + by_, r.2 + by_)
theorem mv_in (by_ : Int) (l : List R) (x : Int) : In (mv by_ l) x ↔ In l (x - by_) := by
  constructor
  · rintro ⟨s, hs, h1, h2⟩
    obtain ⟨r, hr, rfl⟩ := List.mem_map.1 hs
    simp only at h1 h2
    exact ⟨r, hr, by omega, by omega⟩
  · rintro ⟨r, hr, h1, h2⟩
    exact ⟨_, List.mem_map.2 ⟨r, hr, rfl⟩, by simp only; omega, by simp only; omega⟩
theorem mv_right (by_ : Int) (l : List R) : ∀ a, RightF a l → RightF (a + by_) (mv by_ l) := by
  induction l with
  | nil => intro a _; trivial
  | cons r l ih =>
    intro a h
    obtain ⟨h0, h1, h2⟩ := h
    exact ⟨by show a + by_ < r.1 + by_; omega, by show r.1 + by_ < r.2 + by_; omega, ih r.2 h2⟩
def upR (by_ : Int) (r : R) : R := (min (max r.1 0) 1125899906842624 + by_, max r.2 0 + by_)
theorem up_is (by_ : Int) (h0 : 0 ≤ by_) (l : List R) (hl : ∀ r ∈ l, r.2 ≤ 1125899906842624) : nl (l.map (upR by_)) = mv by_ (nl l) := by
  refine (nl_is _).uniq (p' := fun x => 0 ≤ x - by_ ∧ In l (x - by_)) ⟨right_mono (mv_right by_ _ _ (nl_is l).1) (by omega), fun x => ?_⟩ (fun x => ?_)
  · rw [mv_in, (nl_is l).2]
  · constructor
    · rintro ⟨_, s, hs, h1, h2⟩
      obtain ⟨r, hr, rfl⟩ := List.mem_map.1 hs
      simp only [upR] at h1 h2
      have := hl r hr
      exact ⟨by omega, r, hr, by omega, by omega⟩
    · rintro ⟨h3, r, hr, h1, h2⟩
      have := hl r hr
      exact ⟨by omega, _, List.mem_map.2 ⟨r, hr, rfl⟩, by simp only [upR]; omega, by simp only [upR]; omega⟩
theorem tot_mv (by_ : Int) (l : List R) : tot (mv by_ l) = tot l := by
  induction l with
  | nil => rfl
  | cons r l ih => show (r.2 + by_ - (r.1 + by_)) + tot (mv by_ l) = _; rw [ih]; simp only [tot]; omega
/-! ### Lists changed about -/
theorem turned (a b c : List R) : eitherR a b = eitherR b a ∧ bothR a b = bothR b a ∧ eitherR a a = nl a ∧ eitherR (eitherR a b) c = eitherR a (eitherR b c) ∧ bothR (bothR a b) c = bothR a (bothR b c) ∧
    lessR (lessR a b) c = lessR a (eitherR b c) ∧ bothR a (eitherR b c) = eitherR (bothR a b) (bothR a c) := by
  have H : ∀ m p, Is m p → ∀ x, In m x ↔ p x := fun m p h => h.2
  have He := fun a b => H _ _ (eitherR_is a b)
  have Hb := fun a b => H _ _ (bothR_is a b)
  have Hl := fun a b => H _ _ (lessR_is a b)
  refine ⟨(eitherR_is a b).uniq (eitherR_is b a) fun x => ?_, (bothR_is a b).uniq (bothR_is b a) fun x => ?_, (eitherR_is a a).uniq (nl_is a) fun x => ?_, (eitherR_is _ _).uniq (eitherR_is _ _) fun x => ?_,
    (bothR_is _ _).uniq (bothR_is _ _) fun x => ?_, (lessR_is _ _).uniq (lessR_is _ _) fun x => ?_, (bothR_is _ _).uniq (eitherR_is _ _) fun x => ?_⟩
  · simp only [Or.comm]
  · simp only [And.comm]
  · simp only [or_self]
  · simp only [He]
    constructor
    · rintro ⟨h0, ⟨_, h | h⟩ | h⟩
      · exact ⟨h0, .inl h⟩
      · exact ⟨h0, .inr ⟨h0, .inl h⟩⟩
      · exact ⟨h0, .inr ⟨h0, .inr h⟩⟩
    · rintro ⟨h0, h | ⟨_, h | h⟩⟩
      · exact ⟨h0, .inl ⟨h0, .inl h⟩⟩
      · exact ⟨h0, .inl ⟨h0, .inr h⟩⟩
      · exact ⟨h0, .inr h⟩
  · simp only [Hb]
    exact ⟨fun h => ⟨h.1, h.2.1.2.1, h.1, h.2.1.2.2, h.2.2⟩, fun h => ⟨h.1, ⟨h.1, h.2.1, h.2.2.2.1⟩, h.2.2.2.2⟩⟩
  · simp only [Hl, He]
    exact ⟨fun h => ⟨h.1, h.2.1.2.1, fun hx => hx.2.elim h.2.1.2.2 h.2.2⟩, fun h => ⟨h.1, ⟨h.1, h.2.1, fun hb => h.2.2 ⟨h.1, .inl hb⟩⟩, fun hc => h.2.2 ⟨h.1, .inr hc⟩⟩⟩
  · simp only [Hb, He]
    constructor
    · rintro ⟨h0, ha, _, h | h⟩
      · exact ⟨h0, .inl ⟨h0, ha, h⟩⟩
      · exact ⟨h0, .inr ⟨h0, ha, h⟩⟩
    · rintro ⟨h0, ⟨_, ha, h⟩ | ⟨_, ha, h⟩⟩
      · exact ⟨h0, ha, h0, .inl h⟩
      · exact ⟨h0, ha, h0, .inr h⟩
theorem sets_join (a b : List R) : eitherR (lessR a b) (bothR a b) = nl a ∧ bothR (lessR a b) b = [] := by
  have H : ∀ m p, Is m p → ∀ x, In m x ↔ p x := fun m p h => h.2
  have Hb := fun a b => H _ _ (bothR_is a b)
  have Hl := fun a b => H _ _ (lessR_is a b)
  refine ⟨(eitherR_is _ _).uniq (nl_is a) fun x => ?_, (bothR_is _ _).uniq (m' := []) (p' := fun _ => False) ⟨trivial, fun x => ⟨in_nil x, fun h => h.elim⟩⟩ fun x => ?_⟩
  · simp only [Hl, Hb]
    constructor
    · rintro ⟨h0, h | h⟩
      · exact ⟨h0, h.2.1⟩
      · exact ⟨h0, h.2.1⟩
    · rintro ⟨h0, h⟩
      by_cases hb : In b x
      · exact ⟨h0, .inr ⟨h0, h, hb⟩⟩
      · exact ⟨h0, .inl ⟨h0, h, hb⟩⟩
  · simp only [Hl]
    exact ⟨fun h => h.2.1.2.2 h.2.2, fun h => h.elim⟩
end Go.Proofs.YtblibmalommdkaaGreat
