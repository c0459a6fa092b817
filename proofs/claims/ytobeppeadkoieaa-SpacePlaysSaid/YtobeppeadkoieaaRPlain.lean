/-
  Sets of numbers as lists of ranges, plain: the right list of a list's numbers; what both have; what one has alone; how many they are.
-/
import Derived.Test.YtobeppeadkoieaaRSets
namespace Go.Proofs.Ytobeppeadkoieaa.Rg
/-- The right list of a set. -/
def Is (m : List R) (p : Int → Prop) : Prop := Right m ∧ ∀ x, In m x ↔ p x
theorem Is.uniq {m m' : List R} {p p' : Int → Prop} (h : Is m p) (h' : Is m' p') (e : ∀ x, p x ↔ p' x) : m = m' := right_unique h.1 h'.1 fun x => (h.2 x).trans ((e x).trans (h'.2 x).symm)
theorem Is.congr {m : List R} {p p' : Int → Prop} (h : Is m p) (e : ∀ x, p x ↔ p' x) : Is m p' := ⟨h.1, fun x => (h.2 x).trans (e x)⟩
theorem right_mem {a : Int} {m : List R} (h : RightF a m) {r : R} (hr : r ∈ m) : a < r.1 ∧ r.1 < r.2 := by
  induction m generalizing a with
  | nil => cases hr
  | cons s m ih =>
    obtain ⟨h0, h1, h2⟩ := h
    rcases List.mem_cons.1 hr with rfl | hr
    · exact ⟨h0, h1⟩
    · have := ih h2 hr
      omega
def I64 (x : Int) : Prop := -9223372036854775808 ≤ x ∧ x ≤ 9223372036854775807
def IR (l : List R) : Prop := ∀ r ∈ l, I64 r.1 ∧ I64 r.2
/-- Ranges of a right list are no numbers below 0 or too great. -/
def Nn (l : List R) : Prop := ∀ r ∈ l, 0 ≤ r.1 ∧ r.1 < r.2 ∧ r.2 ≤ 9223372036854775807
theorem Nn.ir {l : List R} (h : Nn l) : IR l := fun r hr => by
  obtain ⟨h0, h1, h2⟩ := h r hr
  unfold I64; omega
theorem Is.nn {m : List R} {p : Int → Prop} (h : Is m p) (hp : ∀ x, p x → x < 9223372036854775807) : Nn m := fun r hr => by
  have h1 := right_mem h.1 hr
  have h2 := hp (r.2 - 1) ((h.2 _).1 ⟨r, hr, by omega, by omega⟩)
  omega
theorem IR.in_lt {l : List R} (h : IR l) {x : Int} (hx : In l x) : x < 9223372036854775807 := by
  obtain ⟨r, hr, h1, h2⟩ := hx
  have := (h r hr).2
  unfold I64 at this; omega
theorem IR.append {l m : List R} (h : IR l) (h' : IR m) : IR (l ++ m) := fun r hr => by
  rcases List.mem_append.1 hr with hr | hr
  · exact h r hr
  · exact h' r hr
theorem mstep_len (out : List R) (r : R) : (mstep out r).length ≤ out.length + 1 := by
  unfold mstep
  split
  · simp
  · rename_i s hs
    split
    · have : out ≠ [] := by rintro rfl; simp at hs
      have := List.length_pos_iff.2 this
      simp
    · simp
theorem fold_len (l out : List R) : (l.foldl mstep out).length ≤ out.length + l.length := by
  induction l generalizing out with
  | nil => simp
  | cons r l ih => have := ih (mstep out r); have := mstep_len out r; simp only [List.foldl_cons, List.length_cons]; omega
/-- The right list of the same numbers. -/
def nl (l : List R) : List R := ((clip l).mergeSort fun a b => decide (a.1 ≤ b.1)).foldl mstep []
theorem fold_is (l d : List R) (hp : d.Perm (clip l)) (hs : d.Pairwise (fun a b => a.1 ≤ b.1)) : Is (d.foldl mstep []) (fun x => 0 ≤ x ∧ In l x) := by
  obtain ⟨h1, h2⟩ := merge_ok d hs (fun r hr => clip_ok l r (hp.mem_iff.1 hr)) [] trivial (fun s hs => by simp at hs)
  refine ⟨h1, fun x => ?_⟩
  show _ ↔ 0 ≤ x ∧ In l x
  rw [h2, ← clip_in]
  constructor
  · rintro (h | ⟨r, hr, h⟩)
    · exact absurd h (in_nil x)
    · exact ⟨r, hp.mem_iff.1 hr, h⟩
  · rintro ⟨r, hr, h⟩
    exact .inr ⟨r, hp.mem_iff.2 hr, h⟩
theorem sort_pw (l : List R) : (l.mergeSort fun a b => decide (a.1 ≤ b.1)).Pairwise (fun a b => a.1 ≤ b.1) := by
  have h := List.pairwise_mergeSort (le := fun (a b : R) => decide (a.1 ≤ b.1)) (fun a b c h1 h2 => by simp at *; omega) (fun a b => by simp; omega) l
  exact h.imp fun h => by simpa using h
theorem nl_is (l : List R) : Is (nl l) (fun x => 0 ≤ x ∧ In l x) := fold_is l _ (List.mergeSort_perm _ _) (sort_pw _)
theorem nl_eq (l d : List R) (hp : d.Perm (clip l)) (hs : d.Pairwise (fun a b => a.1 ≤ b.1)) : d.foldl mstep [] = nl l := (fold_is l d hp hs).uniq (nl_is l) fun _ => Iff.rfl
theorem nl_len (l : List R) : (nl l).length ≤ l.length := by
  have h1 := fold_len ((clip l).mergeSort fun a b => decide (a.1 ≤ b.1)) []
  rw [List.length_mergeSort] at h1
  have h2 : (clip l).length ≤ l.length := by unfold clip; exact Nat.le_trans (List.length_filter_le _ _) (by simp)
  unfold nl
  simp only [List.length_nil] at h1
  omega
theorem nl_nn {l : List R} (h : IR l) : Nn (nl l) := (nl_is l).nn fun _ hx => h.in_lt hx.2
/-- The right list of what each of two right lists has. -/
def bothL : List R → List R → List R
  | [], _ => []
  | _ :: _, [] => []
  | r :: a, s :: b => (if max r.1 s.1 < min r.2 s.2 then [(max r.1 s.1, min r.2 s.2)] else []) ++ (if r.2 ≤ s.2 then bothL a (s :: b) else bothL (r :: a) b)
termination_by a b => a.length + b.length
theorem bothL_nil (b : List R) : bothL [] b = [] := by unfold bothL; rfl
theorem bothL_nil' (a : List R) : bothL a [] = [] := by cases a <;> unfold bothL <;> rfl
theorem bothL_cons (r s : R) (a b : List R) : bothL (r :: a) (s :: b) = (if max r.1 s.1 < min r.2 s.2 then [(max r.1 s.1, min r.2 s.2)] else []) ++ (if r.2 ≤ s.2 then bothL a (s :: b) else bothL (r :: a) b) := by
  rw [bothL]
theorem bothL_right (n : Nat) : ∀ (a b : List R), a.length + b.length ≤ n → ∀ c d e, RightF c a → RightF d b → (e ≤ c ∨ e ≤ d) → RightF e (bothL a b) := by
  induction n with
  | zero =>
    intro a b h c d e _ _ _
    have : a = [] := List.length_eq_zero_iff.1 (by omega)
    subst this
    rw [bothL_nil]; trivial
  | succ n ih =>
    intro a b hn c d e ha hb he
    cases a with
    | nil => rw [bothL_nil]; trivial
    | cons r a =>
      cases b with
      | nil => rw [bothL_nil']; trivial
      | cons s b =>
        rw [bothL_cons]
        obtain ⟨a0, a1, a2⟩ := ha
        obtain ⟨b0, b1, b2⟩ := hb
        simp only [List.length_cons] at hn
        have key : ∀ e, (e ≤ max c d ∨ (e ≤ min r.2 s.2)) → RightF e (if r.2 ≤ s.2 then bothL a (s :: b) else bothL (r :: a) b) := by
          intro e he
          by_cases hc : r.2 ≤ s.2
          · rw [if_pos hc]
            rcases Int.le_total e r.2 with h | h
            · exact ih a (s :: b) (by simp only [List.length_cons]; omega) r.2 d e a2 ⟨b0, b1, b2⟩ (.inl h)
            · exact ih a (s :: b) (by simp only [List.length_cons]; omega) r.2 d e a2 ⟨b0, b1, b2⟩ (by omega)
          · rw [if_neg hc]
            rcases Int.le_total e s.2 with h | h
            · exact ih (r :: a) b (by simp only [List.length_cons]; omega) c s.2 e ⟨a0, a1, a2⟩ b2 (.inr h)
            · exact ih (r :: a) b (by simp only [List.length_cons]; omega) c s.2 e ⟨a0, a1, a2⟩ b2 (by omega)
        by_cases hl : max r.1 s.1 < min r.2 s.2
        · rw [if_pos hl]
          exact ⟨by show e < max r.1 s.1; omega, hl, key _ (.inr (Int.le_refl _))⟩
        · rw [if_neg hl]
          exact key e (.inl (by omega))
theorem bothL_in (n : Nat) : ∀ (a b : List R), a.length + b.length ≤ n → ∀ c d, RightF c a → RightF d b → ∀ x, In (bothL a b) x ↔ In a x ∧ In b x := by
  induction n with
  | zero =>
    intro a b h c d _ _ x
    have : a = [] := List.length_eq_zero_iff.1 (by omega)
    subst this
    rw [bothL_nil]
    exact ⟨fun h => absurd h (in_nil x), fun h => absurd h.1 (in_nil x)⟩
  | succ n ih =>
    intro a b hn c d ha hb x
    cases a with
    | nil => rw [bothL_nil]; exact ⟨fun h => absurd h (in_nil x), fun h => absurd h.1 (in_nil x)⟩
    | cons r a =>
      cases b with
      | nil => rw [bothL_nil']; exact ⟨fun h => absurd h (in_nil x), fun h => absurd h.2 (in_nil x)⟩
      | cons s b =>
        rw [bothL_cons, in_append]
        obtain ⟨a0, a1, a2⟩ := ha
        obtain ⟨b0, b1, b2⟩ := hb
        simp only [List.length_cons] at hn
        have e1 : In (if max r.1 s.1 < min r.2 s.2 then [(max r.1 s.1, min r.2 s.2)] else []) x ↔ (r.1 ≤ x ∧ x < r.2) ∧ (s.1 ≤ x ∧ x < s.2) := by
          split
          · rw [in_one]; show max r.1 s.1 ≤ x ∧ x < min r.2 s.2 ↔ _; omega
          · exact ⟨fun h => absurd h (in_nil x), fun h => by omega⟩
        rw [e1]
        have ga : In a x → r.2 < x := right_above a2
        have gb : In b x → s.2 < x := right_above b2
        by_cases hc : r.2 ≤ s.2
        · rw [if_pos hc, ih a (s :: b) (by simp only [List.length_cons]; omega) r.2 d a2 ⟨b0, b1, b2⟩ x, in_cons, in_cons]
          constructor
          · rintro (h | h)
            · exact ⟨.inl h.1, .inl h.2⟩
            · exact ⟨.inr h.1, h.2⟩
          · rintro ⟨h1 | h1, h2 | h2⟩
            · exact .inl ⟨h1, h2⟩
            · have := gb h2; omega
            · exact .inr ⟨h1, .inl h2⟩
            · exact .inr ⟨h1, .inr h2⟩
        · rw [if_neg hc, ih (r :: a) b (by simp only [List.length_cons]; omega) c s.2 ⟨a0, a1, a2⟩ b2 x, in_cons, in_cons]
          constructor
          · rintro (h | h)
            · exact ⟨.inl h.1, .inl h.2⟩
            · exact ⟨h.1, .inr h.2⟩
          · rintro ⟨h1 | h1, h2 | h2⟩
            · exact .inl ⟨h1, h2⟩
            · exact .inr ⟨.inl h1, h2⟩
            · have := ga h1; omega
            · exact .inr ⟨.inr h1, h2⟩
theorem bothL_len (n : Nat) : ∀ (a b : List R), a.length + b.length ≤ n → (bothL a b).length ≤ a.length + b.length := by
  induction n with
  | zero =>
    intro a b h
    have : a = [] := List.length_eq_zero_iff.1 (by omega)
    subst this
    rw [bothL_nil]; simp
  | succ n ih =>
    intro a b hn
    cases a with
    | nil => rw [bothL_nil]; simp
    | cons r a =>
      cases b with
      | nil => rw [bothL_nil']; simp
      | cons s b =>
        rw [bothL_cons]
        simp only [List.length_cons] at hn
        have h1 := ih a (s :: b) (by simp only [List.length_cons]; omega)
        have h2 := ih (r :: a) b (by simp only [List.length_cons]; omega)
        simp only [List.length_cons] at h1 h2
        rw [List.length_append]
        split <;> split <;> simp only [List.length_cons, List.length_nil] <;> omega
def bothR (a b : List R) : List R := bothL (nl a) (nl b)
theorem bothR_is (a b : List R) : Is (bothR a b) (fun x => 0 ≤ x ∧ In a x ∧ In b x) :=
  ⟨bothL_right _ _ _ (Nat.le_refl _) _ _ _ (nl_is a).1 (nl_is b).1 (.inl (Int.le_refl _)), fun x => by
    unfold bothR
    rw [bothL_in _ _ _ (Nat.le_refl _) _ _ (nl_is a).1 (nl_is b).1 x, (nl_is a).2, (nl_is b).2]
    exact ⟨fun h => ⟨h.1.1, h.1.2, h.2.2⟩, fun h => ⟨⟨h.1, h.2.1⟩, h.1, h.2.2⟩⟩⟩
theorem bothR_len (a b : List R) : (bothR a b).length ≤ a.length + b.length := by
  have := bothL_len _ (nl a) (nl b) (Nat.le_refl _)
  have := nl_len a; have := nl_len b
  unfold bothR; omega
theorem bothR_nn {a b : List R} (h : IR a) : Nn (bothR a b) := (bothR_is a b).nn fun _ hx => h.in_lt hx.2.1
def eitherR (a b : List R) : List R := nl (a ++ b)
theorem eitherR_is (a b : List R) : Is (eitherR a b) (fun x => 0 ≤ x ∧ (In a x ∨ In b x)) := (nl_is (a ++ b)).congr fun x => by rw [in_append]
theorem eitherR_len (a b : List R) : (eitherR a b).length ≤ a.length + b.length := by
  have := nl_len (a ++ b)
  rw [List.length_append] at this
  exact this
theorem eitherR_nn {a b : List R} (h : IR a) (h' : IR b) : Nn (eitherR a b) := nl_nn (h.append h')
/-- A range without a right list's numbers. -/
def cut (f t : Int) : List R → List R
  | [] => [(f, t)]
  | s :: b => if s.1 < t then (if f < s.1 then [(f, s.1)] else []) ++ (if t ≤ s.2 then [] else cut s.2 t b) else [(f, t)]
/-- Those that end ahead of a number left away. -/
def skip (f : Int) : List R → List R
  | [] => []
  | s :: b => if s.2 ≤ f then skip f b else s :: b
def lessL : List R → List R → List R
  | [], _ => []
  | r :: a, b => cut r.1 r.2 (skip r.1 b) ++ lessL a (skip r.1 b)
theorem skip_right (f : Int) (b : List R) : ∀ d, RightF d b → RightF d (skip f b) ∧ ∀ x, f ≤ x → (In (skip f b) x ↔ In b x) := by
  induction b with
  | nil => intro d h; exact ⟨trivial, fun x _ => Iff.rfl⟩
  | cons s b ih =>
    intro d h
    unfold skip
    split
    · obtain ⟨h0, h1, h2⟩ := h
      obtain ⟨i1, i2⟩ := ih s.2 h2
      refine ⟨right_mono i1 (by omega), fun x hx => ?_⟩
      rw [i2 x hx, in_cons]
      exact ⟨.inr, fun h => h.resolve_left (by omega)⟩
    · exact ⟨h, fun x _ => Iff.rfl⟩
theorem skip_len (f : Int) (b : List R) : (skip f b).length ≤ b.length := by
  induction b with
  | nil => exact Nat.le_refl _
  | cons s b ih => unfold skip; split <;> simp only [List.length_cons] <;> omega
/-- The first of those that are left ends behind the number. -/
theorem skip_head (f : Int) (b : List R) : ∀ s b', skip f b = s :: b' → f < s.2 := by
  induction b with
  | nil => intro s b' h; cases h
  | cons r b ih =>
    intro s b' h
    unfold skip at h
    split at h
    · exact ih s b' h
    · cases h; omega
theorem cut_ok (b : List R) : ∀ (f t d : Int), f < t → RightF d b → (∀ s b', b = s :: b' → f < s.2) →
    (∀ e, e < f → RightF e (cut f t b)) ∧ (∀ x, In (cut f t b) x ↔ (f ≤ x ∧ x < t) ∧ ¬ In b x) ∧ (lastTo f (cut f t b) ≤ t ∧ f ≤ lastTo f (cut f t b)) := by
  induction b with
  | nil =>
    intro f t d hft _ _
    refine ⟨fun e he => ⟨he, hft, trivial⟩, fun x => ?_, by show t ≤ t ∧ f ≤ t; omega⟩
    unfold cut
    rw [in_one]
    exact ⟨fun h => ⟨h, in_nil x⟩, fun h => h.1⟩
  | cons s b ih =>
    intro f t d hft hb hh
    obtain ⟨b0, b1, b2⟩ := hb
    have hs := hh s b rfl
    have gb : ∀ x, In b x → s.2 < x := fun x => right_above b2
    unfold cut
    by_cases h1 : s.1 < t
    · rw [if_pos h1]
      have tail : (∀ e, e < s.2 → RightF e (if t ≤ s.2 then [] else cut s.2 t b)) ∧ (∀ x, In (if t ≤ s.2 then [] else cut s.2 t b) x ↔ (s.2 ≤ x ∧ x < t) ∧ ¬ In b x) ∧ ∀ g, f ≤ g → g ≤ s.2 → g ≤ t → lastTo g (if t ≤ s.2 then [] else cut s.2 t b) ≤ t ∧ f ≤ lastTo g (if t ≤ s.2 then [] else cut s.2 t b) := by
        by_cases h2 : t ≤ s.2
        · rw [if_pos h2]
          exact ⟨fun e _ => trivial, fun x => ⟨fun h => absurd h (in_nil x), fun h => by omega⟩, fun g g1 g2 g3 => ⟨g3, g1⟩⟩
        · rw [if_neg h2]
          obtain ⟨i1, i2, i3⟩ := ih s.2 t s.2 (by omega) b2 (fun s' b' e => by subst e; have := b2.1; have := b2.2.1; omega)
          refine ⟨i1, i2, fun g g1 g2 g3 => ?_⟩
          cases hc : cut s.2 t b with
          | nil => exact ⟨g3, g1⟩
          | cons u v => rw [hc] at i3; show lastTo u.2 v ≤ t ∧ f ≤ lastTo u.2 v; simp only [lastTo] at i3; omega
      obtain ⟨t1, t2, t3⟩ := tail
      refine ⟨fun e he => ?_, fun x => ?_, ?_⟩
      · by_cases h3 : f < s.1
        · rw [if_pos h3]
          exact ⟨he, h3, t1 _ b1⟩
        · rw [if_neg h3]
          exact t1 e (by omega)
      · rw [in_append, t2, in_cons]
        have e1 : In (if f < s.1 then [(f, s.1)] else []) x ↔ f ≤ x ∧ x < s.1 := by
          split
          · rw [in_one]
          · exact ⟨fun h => absurd h (in_nil x), fun h => by omega⟩
        rw [e1]
        constructor
        · rintro (h | ⟨h, h'⟩)
          · refine ⟨by omega, ?_⟩
            rintro (h'' | h'')
            · omega
            · have := gb x h''; omega
          · refine ⟨by omega, ?_⟩
            rintro (h'' | h'')
            · omega
            · exact h' h''
        · rintro ⟨h, h'⟩
          by_cases hx : x < s.1
          · exact .inl ⟨h.1, hx⟩
          · right
            refine ⟨⟨?_, h.2⟩, fun hb => h' (.inr hb)⟩
            have : ¬ (s.1 ≤ x ∧ x < s.2) := fun h'' => h' (.inl h'')
            omega
      · by_cases h3 : f < s.1
        · rw [if_pos h3]
          exact t3 s.1 (by omega) (by omega) (by omega)
        · rw [if_neg h3]
          exact t3 f (Int.le_refl _) (by omega) (by omega)
    · rw [if_neg h1]
      refine ⟨fun e he => ⟨he, hft, trivial⟩, fun x => ?_, by show t ≤ t ∧ f ≤ t; omega⟩
      rw [in_one]
      refine ⟨fun h => ⟨h, fun hb => ?_⟩, fun h => h.1⟩
      rcases (in_cons s b x).1 hb with hb | hb
      · simp only at h; omega
      · have := gb x hb; simp only at h; omega
theorem lessL_ok (a : List R) : ∀ (b : List R) (c d : Int), RightF c a → RightF d b → RightF c (lessL a b) ∧ ∀ x, In (lessL a b) x ↔ In a x ∧ ¬ In b x := by
  induction a with
  | nil => intro b c d _ _; exact ⟨trivial, fun x => ⟨fun h => absurd h (in_nil x), fun h => absurd h.1 (in_nil x)⟩⟩
  | cons r a ih =>
    intro b c d ha hb
    obtain ⟨a0, a1, a2⟩ := ha
    obtain ⟨s1, s2⟩ := skip_right r.1 b d hb
    obtain ⟨c1, c2, c3⟩ := cut_ok (skip r.1 b) r.1 r.2 d a1 s1 (skip_head r.1 b)
    obtain ⟨i1, i2⟩ := ih (skip r.1 b) r.2 d a2 s1
    unfold lessL
    refine ⟨?_, fun x => ?_⟩
    · rw [right_append]
      refine ⟨c1 c a0, right_mono i1 ?_⟩
      cases hc : cut r.1 r.2 (skip r.1 b) with
      | nil => show c ≤ r.2; omega
      | cons u v => rw [hc] at c3; simp only [lastTo] at c3 ⊢; exact c3.1
    · rw [in_append, c2, i2, in_cons]
      have ga : In a x → r.2 < x := right_above a2
      constructor
      · rintro (⟨h, h'⟩ | ⟨h, h'⟩)
        · exact ⟨.inl h, fun hb => h' ((s2 x h.1).2 hb)⟩
        · exact ⟨.inr h, fun hb => h' ((s2 x (by have := ga h; omega)).2 hb)⟩
      · rintro ⟨h | h, h'⟩
        · exact .inl ⟨h, fun hb => h' ((s2 x h.1).1 hb)⟩
        · exact .inr ⟨h, fun hb => h' ((s2 x (by have := ga h; omega)).1 hb)⟩
theorem cut_len (b : List R) : ∀ f t, (cut f t b).length ≤ b.length + 1 := by
  induction b with
  | nil => intro f t; exact Nat.le_refl _
  | cons s b ih =>
    intro f t
    have := ih s.2 t
    unfold cut
    split
    · rw [List.length_append]
      split <;> split <;> simp only [List.length_cons, List.length_nil] <;> omega
    · simp
theorem lessL_len (a : List R) : ∀ b, (lessL a b).length ≤ a.length * (b.length + 1) := by
  induction a with
  | nil => intro b; simp [lessL]
  | cons r a ih =>
    intro b
    have h1 := cut_len (skip r.1 b) r.1 r.2
    have h2 := skip_len r.1 b
    have h3 := ih (skip r.1 b)
    have h4 : a.length * ((skip r.1 b).length + 1) ≤ a.length * (b.length + 1) := Nat.mul_le_mul_left _ (by omega)
    unfold lessL
    rw [List.length_append, List.length_cons, Nat.add_mul]
    omega
def lessR (a b : List R) : List R := lessL (nl a) (nl b)
theorem lessR_is (a b : List R) : Is (lessR a b) (fun x => 0 ≤ x ∧ In a x ∧ ¬ In b x) := by
  obtain ⟨h1, h2⟩ := lessL_ok (nl a) (nl b) _ _ (nl_is a).1 (nl_is b).1
  refine ⟨h1, fun x => ?_⟩
  unfold lessR
  rw [h2, (nl_is a).2, (nl_is b).2]
  exact ⟨fun h => ⟨h.1.1, h.1.2, fun hb => h.2 ⟨h.1.1, hb⟩⟩, fun h => ⟨⟨h.1, h.2.1⟩, fun hb => h.2.2 hb.2⟩⟩
theorem lessR_nn {a b : List R} (h : IR a) : Nn (lessR a b) := (lessR_is a b).nn fun _ hx => h.in_lt hx.2.1
/-- How many numbers there are. -/
def tot : List R → Int
  | [] => 0
  | r :: l => (r.2 - r.1) + tot l
theorem tot_snoc (l : List R) (r : R) : tot (l ++ [r]) = tot l + (r.2 - r.1) := by
  induction l with
  | nil => simp [tot]
  | cons a l ih => simp only [List.cons_append, tot, ih]; omega
theorem tot_le (l : List R) : ∀ a, RightF a l → 0 ≤ tot l ∧ a + tot l ≤ lastTo a l := by
  induction l with
  | nil => intro a _; exact ⟨Int.le_refl _, by simp [tot, lastTo]⟩
  | cons r l ih =>
    intro a h
    obtain ⟨h0, h1, h2⟩ := h
    have := ih r.2 h2
    simp only [tot, lastTo]
    omega
theorem tot_bound {l : List R} (h : Right l) (hn : Nn l) : 0 ≤ tot l ∧ tot l ≤ 9223372036854775807 := by
  cases l with
  | nil => simp [tot]
  | cons r l =>
    have h2 := tot_le l r.2 h.2.2
    have h1 := hn r (List.mem_cons_self ..)
    have h3 : lastTo r.2 l ≤ 9223372036854775807 := by
      rcases List.eq_nil_or_concat l with rfl | ⟨l', s, rfl⟩
      · exact h1.2.2
      · rw [List.concat_eq_append, lastTo_snoc]; exact (hn s (by simp)).2.2
    simp only [tot]
    omega
end Go.Proofs.Ytobeppeadkoieaa.Rg
