/-
  Sets of numbers as lists of ranges, plain: all ends of lists; the right list of a mix; how many numbers there are; where so many fit.
-/
import Derived.Test.YtobeppeadkoieaaRPlain
namespace Go.Proofs.Ytobeppeadkoieaa.Rg
/-- A number into a rising list. -/
def ins (n : Int) : List Int → List Int
  | [] => [n]
  | x :: l => if n < x then n :: x :: l else x :: ins n l
def putL (l : List Int) (n : Int) : List Int := if n < 0 then l else if n ∈ l then l else ins n l
theorem ins_len (n : Int) (l : List Int) : (ins n l).length = l.length + 1 := by
  induction l with
  | nil => rfl
  | cons x l ih => unfold ins; split <;> simp [ih]
theorem ins_mem (n : Int) (l : List Int) (y : Int) : y ∈ ins n l ↔ y = n ∨ y ∈ l := by
  induction l with
  | nil => simp [ins]
  | cons x l ih =>
    unfold ins
    split
    · simp
    · simp only [List.mem_cons, ih]
      constructor
      · rintro (h | h | h) <;> simp [h]
      · rintro (h | h | h) <;> simp [h]
def Rise (l : List Int) : Prop := l.Pairwise (· < ·)
theorem ins_rise (n : Int) (l : List Int) (h : Rise l) (hn : n ∉ l) : Rise (ins n l) := by
  induction l with
  | nil => exact List.pairwise_singleton _ _
  | cons x l ih =>
    obtain ⟨h1, h2⟩ := List.pairwise_cons.1 h
    unfold ins
    split
    · rename_i hx
      refine List.pairwise_cons.2 ⟨fun y hy => ?_, h⟩
      rcases List.mem_cons.1 hy with rfl | hy
      · exact hx
      · have := h1 y hy; omega
    · rename_i hx
      refine List.pairwise_cons.2 ⟨fun y hy => ?_, ih h2 (fun hh => hn (List.mem_cons_of_mem _ hh))⟩
      rcases (ins_mem n l y).1 hy with rfl | hy
      · have : y ≠ x := fun e => hn (by rw [e]; exact List.mem_cons_self ..)
        omega
      · exact h1 y hy
theorem putL_len (l : List Int) (n : Int) : (putL l n).length ≤ l.length + 1 := by
  unfold putL
  split
  · omega
  · split
    · omega
    · rw [ins_len]; exact Nat.le_refl _
/-- A rising list of numbers from 0 on, with 0 at its head. -/
def Mk (l : List Int) : Prop := Rise l ∧ l.head? = some 0
theorem putL_mk {l : List Int} (h : Mk l) (n : Int) : Mk (putL l n) := by
  unfold putL
  split
  · exact h
  · rename_i h0
    split
    · exact h
    · rename_i h1
      refine ⟨ins_rise n l h.1 h1, ?_⟩
      cases l with
      | nil => exact absurd h.2 (by simp)
      | cons x l =>
        have hx : x = 0 := by simpa using h.2
        subst hx
        unfold ins
        rw [if_neg h0]; rfl
theorem putL_mem (l : List Int) (n y : Int) : y ∈ putL l n ↔ y ∈ l ∨ (y = n ∧ 0 ≤ n) := by
  unfold putL
  split
  · exact ⟨.inl, fun h => h.resolve_right (by omega)⟩
  · rename_i h0
    split
    · rename_i h1
      refine ⟨.inl, fun h => ?_⟩
      rcases h with h | ⟨rfl, _⟩
      · exact h
      · exact h1
    · rw [ins_mem]
      constructor
      · rintro (h | h)
        · exact .inr ⟨h, by omega⟩
        · exact .inl h
      · rintro (h | ⟨h, _⟩)
        · exact .inr h
        · exact .inl h
def ends (o : List Int) (l : List R) : List Int := l.foldl (fun o r => putL (putL o r.1) r.2) o
theorem ends_snoc (o : List Int) (l : List R) (r : R) : ends o (l ++ [r]) = putL (putL (ends o l) r.1) r.2 := by simp [ends]
theorem ends_append (o : List Int) (l m : List R) : ends o (l ++ m) = ends (ends o l) m := by simp [ends]
theorem ends_mk {o : List Int} (h : Mk o) (l : List R) : Mk (ends o l) := by
  induction l generalizing o with
  | nil => exact h
  | cons r l ih => exact ih (putL_mk (putL_mk h _) _)
theorem ends_mem (o : List Int) (l : List R) (y : Int) : y ∈ ends o l ↔ y ∈ o ∨ ∃ r ∈ l, (y = r.1 ∨ y = r.2) ∧ 0 ≤ y := by
  induction l generalizing o with
  | nil => simp [ends]
  | cons r l ih =>
    show y ∈ ends (putL (putL o r.1) r.2) l ↔ _
    rw [ih, putL_mem, putL_mem]
    constructor
    · rintro (((h | h) | h) | ⟨s, hs, h⟩)
      · exact .inl h
      · exact .inr ⟨r, List.mem_cons_self .., .inl h.1, by omega⟩
      · exact .inr ⟨r, List.mem_cons_self .., .inr h.1, by omega⟩
      · exact .inr ⟨s, List.mem_cons_of_mem _ hs, h⟩
    · rintro (h | ⟨s, hs, h, h0⟩)
      · exact .inl (.inl (.inl h))
      · rcases List.mem_cons.1 hs with rfl | hs
        · rcases h with h | h
          · exact .inl (.inl (.inr ⟨h, by omega⟩))
          · exact .inl (.inr ⟨h, by omega⟩)
        · exact .inr ⟨s, hs, h, h0⟩
theorem ends_len (o : List Int) (l : List R) : (ends o l).length ≤ o.length + 2 * l.length := by
  induction l generalizing o with
  | nil => exact Nat.le_refl _
  | cons r l ih =>
    have h1 := ih (putL (putL o r.1) r.2)
    have h2 := putL_len (putL o r.1) r.2
    have h3 := putL_len o r.1
    show (ends (putL (putL o r.1) r.2) l).length ≤ _
    simp only [List.length_cons]; omega
def marksL (a b : List R) : List Int := ends (ends [0] a) b
theorem marksL_mk (a b : List R) : Mk (marksL a b) := ends_mk (ends_mk ⟨List.pairwise_singleton _ _, rfl⟩ a) b
theorem marksL_len (a b : List R) : (marksL a b).length ≤ 1 + 2 * a.length + 2 * b.length := by
  have h1 := ends_len (ends [0] a) b
  have h2 := ends_len [0] a
  simp only [List.length_cons, List.length_nil] at h2
  unfold marksL; omega
theorem marksL_mem (a b : List R) (y : Int) (h0 : 0 ≤ y) (h : ∃ r, (r ∈ a ∨ r ∈ b) ∧ (y = r.1 ∨ y = r.2)) : y ∈ marksL a b := by
  obtain ⟨r, hr, h⟩ := h
  unfold marksL
  rw [ends_mem, ends_mem]
  rcases hr with hr | hr
  · exact .inl (.inr ⟨r, hr, h, h0⟩)
  · exact .inr ⟨r, hr, h, h0⟩
theorem mk_nonneg {l : List Int} (h : Mk l) {y : Int} (hy : y ∈ l) : 0 ≤ y := by
  cases l with
  | nil => cases hy
  | cons x l =>
    have hx : x = 0 := by simpa using h.2
    subst hx
    rcases List.mem_cons.1 hy with rfl | hy
    · exact Int.le_refl _
    · exact Int.le_of_lt ((List.pairwise_cons.1 h.1).1 y hy)
theorem marksL_i64 {a b : List R} (ha : IR a) (hb : IR b) {y : Int} (hy : y ∈ marksL a b) : 0 ≤ y ∧ y ≤ 9223372036854775807 := by
  refine ⟨mk_nonneg (marksL_mk a b) hy, ?_⟩
  unfold marksL at hy
  rw [ends_mem, ends_mem] at hy
  rcases hy with (hy | ⟨r, hr, h, _⟩) | ⟨r, hr, h, _⟩
  · simp at hy; omega
  · have := ha r hr; unfold I64 at this; omega
  · have := hb r hr; unfold I64 at this; omega
/-- Between two marks that are next to each other a number is as the mark ahead of it. -/
theorem marks_const {a b : List R} {l : List R} (hl : l = a ∨ l = b) {u x : Int} (hu : u ∈ marksL a b) (hx : u ≤ x) (hg : ∀ v ∈ marksL a b, v ≤ x → v ≤ u) : In l u ↔ In l x := by
  have h0 := mk_nonneg (marksL_mk a b) hu
  have hm : ∀ r ∈ l, r ∈ a ∨ r ∈ b := fun r hr => hl.elim (fun e => .inl (e ▸ hr)) (fun e => .inr (e ▸ hr))
  constructor
  · rintro ⟨r, hr, h1, h2⟩
    refine ⟨r, hr, by omega, ?_⟩
    by_cases hc : x < r.2
    · exact hc
    · have := hg r.2 (marksL_mem a b _ (by omega) ⟨r, hm r hr, .inr rfl⟩) (by omega); omega
  · rintro ⟨r, hr, h1, h2⟩
    refine ⟨r, hr, ?_, by omega⟩
    by_cases hc : 0 ≤ r.1
    · exact hg r.1 (marksL_mem a b _ hc ⟨r, hm r hr, .inl rfl⟩) h1
    · omega
theorem marks_last {a b : List R} {l : List R} (hl : l = a ∨ l = b) {x : Int} (h0 : 0 ≤ x) (hg : ∀ v ∈ marksL a b, v ≤ x) : ¬ In l x := by
  rintro ⟨r, hr, h1, h2⟩
  have hm : r ∈ a ∨ r ∈ b := hl.elim (fun e => .inl (e ▸ hr)) (fun e => .inr (e ▸ hr))
  have := hg r.2 (marksL_mem a b _ (by omega) ⟨r, hm, .inr rfl⟩)
  omega
/-- The pieces between the marks that are to be had. -/
def selL (c : Int → Bool) : List Int → List R
  | u :: v :: m => (if c u then [(u, v)] else []) ++ selL c (v :: m)
  | _ => []
theorem selL_one (c : Int → Bool) (u : Int) : selL c [u] = [] := rfl
theorem selL_cons (c : Int → Bool) (u v : Int) (m : List Int) : selL c (u :: v :: m) = (if c u then [(u, v)] else []) ++ selL c (v :: m) := rfl
theorem selL_ok (c : Int → Bool) (m : List Int) : Rise m → ∀ u, m.head? = some u → (∀ r ∈ selL c m, u ≤ r.1 ∧ r.1 < r.2) ∧ (selL c m).Pairwise (fun a b => a.1 ≤ b.1) := by
  induction m with
  | nil => intro _ u h; cases h
  | cons w m ih =>
    intro hr u hu
    obtain rfl : w = u := by simpa using hu
    cases m with
    | nil => exact ⟨fun r hr => (by cases hr), List.Pairwise.nil⟩
    | cons v m =>
      obtain ⟨h1, h2⟩ := List.pairwise_cons.1 hr
      have hwv := h1 v (List.mem_cons_self ..)
      obtain ⟨i1, i2⟩ := ih h2 v rfl
      rw [selL_cons]
      refine ⟨fun r hr => ?_, ?_⟩
      · rcases List.mem_append.1 hr with hr | hr
        · split at hr
          · simp at hr; subst hr; exact ⟨Int.le_refl _, hwv⟩
          · cases hr
        · have := i1 r hr; omega
      · split
        · refine List.pairwise_cons.2 ⟨fun r hr => ?_, i2⟩
          have := i1 r hr; show w ≤ r.1; omega
        · exact i2
theorem selL_in (c : Int → Bool) (P : Int → Prop) (m : List Int) : Rise m → ∀ u0, m.head? = some u0 → (∀ u ∈ m, ∀ x, u ≤ x → (∀ v ∈ m, v ≤ x → v ≤ u) → (c u = true ↔ P x)) → (∀ x, u0 ≤ x → (∀ v ∈ m, v ≤ x) → ¬ P x) →
    ∀ x, u0 ≤ x → (In (selL c m) x ↔ P x) := by
  induction m with
  | nil => intro _ u h; cases h
  | cons w m ih =>
    intro hr u hu hc hl x hx
    obtain rfl : w = u := by simpa using hu
    cases m with
    | nil => exact ⟨fun h => absurd h (in_nil x), fun h => absurd h (hl x hx (fun v hv => by simp at hv; omega))⟩
    | cons v m =>
      obtain ⟨h1, h2⟩ := List.pairwise_cons.1 hr
      have hwv := h1 v (List.mem_cons_self ..)
      rw [selL_cons, in_append]
      by_cases hxv : x < v
      · have hb : ∀ y ∈ v :: m, x < y := fun y hy => by
          rcases List.mem_cons.1 hy with rfl | hy
          · exact hxv
          · have := (List.pairwise_cons.1 h2).1 y hy; omega
        have e := hc w (List.mem_cons_self ..) x hx (fun y hy hyx => by
          rcases List.mem_cons.1 hy with rfl | hy
          · exact Int.le_refl _
          · have := hb y hy; omega)
        have hno : ¬ In (selL c (v :: m)) x := by
          rintro ⟨r, hr, h3, _⟩
          have := ((selL_ok c (v :: m) h2 v rfl).1 r hr).1
          omega
        rw [← e]
        constructor
        · rintro (h | h)
          · split at h
            · assumption
            · exact absurd h (in_nil x)
          · exact absurd h hno
        · intro h
          left
          rw [if_pos h, in_one]
          exact ⟨hx, hxv⟩
      · have hvx : v ≤ x := by omega
        have i := ih h2 v rfl (fun y hy z hz hg => hc y (List.mem_cons_of_mem _ hy) z hz (fun t ht htz => by
            rcases List.mem_cons.1 ht with rfl | ht
            · have : v ≤ y := by
                rcases List.mem_cons.1 hy with rfl | hy
                · exact Int.le_refl _
                · exact Int.le_of_lt ((List.pairwise_cons.1 h2).1 y hy)
              omega
            · exact hg t ht htz)) (fun z hz hg => hl z (by omega) (fun t ht => by
            rcases List.mem_cons.1 ht with rfl | ht
            · omega
            · exact hg t ht)) x hvx
        rw [i]
        constructor
        · rintro (h | h)
          · split at h
            · have := ((in_one _ _).1 h).2; simp only at this; omega
            · exact absurd h (in_nil x)
          · exact h
        · exact .inr
def mixW (way : Int) (a b : List R) (x : Int) : Prop := (way = 0 ∧ (In a x ∨ In b x)) ∨ (way = 1 ∧ In a x ∧ In b x) ∨ (way = 2 ∧ In a x ∧ ¬ In b x)
/-- The right list of a mix. -/
def mixL (c : Int → Bool) (a b : List R) : List R := (selL c (marksL a b)).foldl mstep []
theorem mixL_is (way : Int) (a b : List R) (c : Int → Bool) (hc : ∀ u, 0 ≤ u → (c u = true ↔ mixW way a b u)) : Is (mixL c a b) (fun x => 0 ≤ x ∧ mixW way a b x) := by
  have hm := marksL_mk a b
  obtain ⟨o1, o2⟩ := selL_ok c _ hm.1 0 hm.2
  obtain ⟨h1, h2⟩ := merge_ok (selL c (marksL a b)) o2 o1 [] trivial (fun s hs => by simp at hs)
  refine ⟨h1, fun x => ?_⟩
  show In (mixL c a b) x ↔ 0 ≤ x ∧ mixW way a b x
  unfold mixL
  rw [h2]
  have hn : In [] x ∨ In (selL c (marksL a b)) x ↔ In (selL c (marksL a b)) x := ⟨fun h => h.resolve_left (in_nil x), .inr⟩
  rw [hn]
  by_cases h0 : 0 ≤ x
  · rw [selL_in c (mixW way a b) _ hm.1 0 hm.2 (fun u hu x hx hg => ?_) (fun x hx hg => ?_) x h0]
    · exact ⟨fun h => ⟨h0, h⟩, fun h => h.2⟩
    · rw [hc u (mk_nonneg hm hu)]
      unfold mixW
      rw [marks_const (l := a) (.inl rfl) hu hx hg, marks_const (l := b) (.inr rfl) hu hx hg]
    · have ha := marks_last (l := a) (.inl rfl) hx hg
      have hb := marks_last (l := b) (.inr rfl) hx hg
      unfold mixW
      rintro (⟨_, h | h⟩ | ⟨_, h, _⟩ | ⟨_, h, _⟩)
      · exact ha h
      · exact hb h
      · exact ha h
      · exact ha h
  · refine ⟨?_, fun h => absurd h.1 h0⟩
    rintro ⟨r, hr, h3, _⟩
    have := (o1 r hr).1
    omega
theorem selL_len (c : Int → Bool) (m : List Int) : (selL c m).length ≤ m.length := by
  induction m with
  | nil => exact Nat.le_refl _
  | cons u m ih =>
    cases m with
    | nil => exact Nat.zero_le _
    | cons v m =>
      rw [selL_cons, List.length_append]
      split <;> simp only [List.length_cons, List.length_nil] at ih ⊢ <;> omega
theorem mixL_len (c : Int → Bool) (a b : List R) : (mixL c a b).length ≤ 1 + 2 * a.length + 2 * b.length := by
  have h1 := fold_len (selL c (marksL a b)) []
  have h2 := selL_len c (marksL a b)
  have h3 := marksL_len a b
  simp only [List.length_nil] at h1
  unfold mixL; omega
end Go.Proofs.Ytobeppeadkoieaa.Rg
