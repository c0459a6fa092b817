/-
  Sets of numbers as lists of ranges, plain: how many numbers there are; where so many fit; lists moved up.
-/
import Derived.Test.YtdpjblepcpjomaaRPlain
namespace Go.Proofs.Ytdpjblepcpjomaa
open Classical
/-- How many numbers below n there are. -/
noncomputable def cnt (p : Int → Prop) : Nat → Int
  | 0 => 0
  | n+1 => cnt p n + (if p n then 1 else 0)
theorem cnt_congr {p q : Int → Prop} (n : Nat) (h : ∀ x : Int, 0 ≤ x → (p x ↔ q x)) : cnt p n = cnt q n := by
  induction n with
  | zero => rfl
  | succ n ih => simp only [cnt, ih, h n (by omega)]
theorem cnt_both (p q : Int → Prop) (n : Nat) : cnt (fun x => p x ∨ q x) n + cnt (fun x => p x ∧ q x) n = cnt p n + cnt q n := by
  induction n with
  | zero => rfl
  | succ n ih =>
    simp only [cnt]
    by_cases h1 : p n <;> by_cases h2 : q n <;> simp [h1, h2] <;> omega
theorem cnt_none (n : Nat) (p : Int → Prop) (h : ∀ x : Int, 0 ≤ x → x < n → ¬ p x) : cnt p n = 0 := by
  induction n with
  | zero => rfl
  | succ n ih => simp only [cnt]; rw [ih (fun x h0 h1 => h x h0 (by omega)), if_neg (h n (by omega) (by omega))]; rfl
theorem cnt_mono (p : Int → Prop) (m n : Nat) (hmn : m ≤ n) (h : ∀ x : Int, m ≤ x → ¬ p x) : cnt p n = cnt p m := by
  induction n with
  | zero => have : m = 0 := by omega
            subst this; rfl
  | succ n ih =>
    rcases Nat.lt_or_ge m (n+1) with hlt | hge
    · simp only [cnt]; rw [ih (by omega), if_neg (h n (by omega))]; omega
    · have : m = n + 1 := by omega
      subst this; rfl
theorem cnt_range (a b : Nat) (n : Nat) (hab : a ≤ b) (hb : b ≤ n) : cnt (fun x => (a : Int) ≤ x ∧ x < b) n = (b : Int) - a := by
  have h1 : ∀ k, a + k ≤ b → cnt (fun x => (a : Int) ≤ x ∧ x < b) (a + k) = (k : Int) := by
    intro k
    induction k with
    | zero => intro _; exact cnt_none _ _ (fun x h0 h1 h => by omega)
    | succ k ih =>
      intro hk
      rw [show a + (k + 1) = (a + k) + 1 from rfl]
      simp only [cnt]
      rw [ih (by omega), if_pos ⟨by omega, by omega⟩]; omega
  have h2 := h1 (b - a) (by omega)
  rw [show a + (b - a) = b by omega] at h2
  rw [cnt_mono _ b n hb (fun x hx h => by omega), h2]; omega
theorem tot_cnt (l : List R) : ∀ a, RightF a l → -1 ≤ a → ∀ n : Nat, (∀ r ∈ l, r.2 ≤ n) → tot l = cnt (In l) n := by
  induction l with
  | nil => intro a _ _ n _; exact (cnt_none n _ (fun x _ _ => in_nil x)).symm
  | cons r l ih =>
    intro a h ha n hn
    obtain ⟨h0, h1, h2⟩ := h
    have i := ih r.2 h2 (by omega) n (fun s hs => hn s (List.mem_cons_of_mem _ hs))
    have hr := hn r (List.mem_cons_self ..)
    have e1 := cnt_both (fun x => r.1 ≤ x ∧ x < r.2) (In l) n
    have e2 : cnt (fun x => (r.1 ≤ x ∧ x < r.2) ∧ In l x) n = 0 := cnt_none n _ (fun x _ _ h => by have := right_above h2 h.2; omega)
    have e3 := cnt_range r.1.toNat r.2.toNat n (by omega) (by omega)
    have e4 : cnt (fun x => r.1 ≤ x ∧ x < r.2) n = r.2 - r.1 := by
      rw [cnt_congr (q := fun x => (r.1.toNat : Int) ≤ x ∧ x < r.2.toNat) n (fun x _ => by omega), e3]; omega
    have e5 : cnt (In (r :: l)) n = cnt (fun x => (r.1 ≤ x ∧ x < r.2) ∨ In l x) n := cnt_congr n (fun x _ => in_cons r l x)
    simp only [tot]
    omega
theorem Is.tot {m : List R} {p : Int → Prop} (h : Is m p) (n : Nat) (hn : ∀ r ∈ m, r.2 ≤ n) : tot m = cnt p n := by
  rw [tot_cnt m _ h.1 (Int.le_refl _) n hn]
  exact cnt_congr n fun x _ => h.2 x
theorem Nn.to {l : List R} (h : Nn l) {N : Nat} (hN : N = 9223372036854775807) : ∀ r ∈ l, r.2 ≤ (N : Int) := fun r hr => by have := (h r hr).2.2; omega
/-- What both have and what either has are together as many as each has. -/
theorem tot_sets {a b : List R} (ha : IR a) (hb : IR b) : tot (eitherR a b) + tot (bothR a b) = tot (nl a) + tot (nl b) := by
  obtain ⟨N, hN⟩ : ∃ N : Nat, N = 9223372036854775807 := ⟨_, rfl⟩
  rw [(eitherR_is a b).tot _ ((eitherR_nn ha hb).to hN), (bothR_is a b).tot _ ((bothR_nn ha).to hN), (nl_is a).tot _ ((nl_nn ha).to hN), (nl_is b).tot _ ((nl_nn hb).to hN)]
  refine Eq.trans ?_ (cnt_both _ _ N)
  congr 1
  · exact cnt_congr _ fun x h0 => ⟨fun h => h.2.elim (fun h => .inl ⟨h0, h⟩) (fun h => .inr ⟨h0, h⟩), fun h => ⟨h0, h.elim (fun h => .inl h.2) (fun h => .inr h.2)⟩⟩
  · exact cnt_congr _ fun x h0 => ⟨fun h => ⟨⟨h0, h.2.1⟩, h0, h.2.2⟩, fun h => ⟨h0, h.1.2, h.2.2⟩⟩
theorem tot_less {a b : List R} (ha : IR a) : tot (lessR a b) + tot (bothR a b) = tot (nl a) := by
  obtain ⟨N, hN⟩ : ∃ N : Nat, N = 9223372036854775807 := ⟨_, rfl⟩
  rw [(lessR_is a b).tot _ ((lessR_nn ha).to hN), (bothR_is a b).tot _ ((bothR_nn ha).to hN), (nl_is a).tot _ ((nl_nn ha).to hN)]
  have h2 := cnt_both (fun x => 0 ≤ x ∧ In a x ∧ ¬ In b x) (fun x => 0 ≤ x ∧ In a x ∧ In b x) N
  rw [← h2]
  have h1 := cnt_none N (fun x => (0 ≤ x ∧ In a x ∧ ¬ In b x) ∧ (0 ≤ x ∧ In a x ∧ In b x)) (fun x _ _ h => h.1.2.2 h.2.2.2)
  rw [h1, Int.add_zero]
  refine cnt_congr _ fun x h0 => ⟨fun h => ?_, fun h => ?_⟩
  · rcases h with h | h
    · exact ⟨h0, h.2.1⟩
    · exact ⟨h0, h.2.1⟩
  · by_cases hb : In b x
    · exact .inr ⟨h0, h.2, hb⟩
    · exact .inl ⟨h0, h.2, hb⟩
theorem tot_small {l : List R} (h : ∀ r ∈ l, r.2 ≤ 400) : tot (nl l) = cnt (fun x => 0 ≤ x ∧ In l x) 400 := by
  refine (nl_is l).tot 400 fun r hr => ?_
  have h1 := right_mem (nl_is l).1 hr
  obtain ⟨_, s, hs, h2, h3⟩ := ((nl_is l).2 (r.2 - 1)).1 ⟨r, hr, by omega, by omega⟩
  have := h s hs
  omega
/-- Where so many numbers fit. -/
def fitL (m : List R) (n : Int) : Option Int := (m.find? fun r => decide (n ≤ r.2 - r.1)).map (·.1)
def fitV (m : List R) (n : Int) : Option Int := if n < 1 then none else fitL m n
/-- Numbers one behind the other are in one range of a right list. -/
theorem right_run (m : List R) : ∀ a, RightF a m → ∀ f n : Int, 1 ≤ n → (∀ x, f ≤ x → x < f + n → In m x) → ∃ r ∈ m, r.1 ≤ f ∧ f + n ≤ r.2 := by
  induction m with
  | nil => intro a _ f n hn h; exact absurd (h f (Int.le_refl _) (by omega)) (in_nil f)
  | cons r m ih =>
    intro a hr f n hn h
    obtain ⟨h0, h1, h2⟩ := hr
    have gm : ∀ x, In m x → r.2 < x := fun x => right_above h2
    rcases (in_cons r m f).1 (h f (Int.le_refl _) (by omega)) with hf | hf
    · refine ⟨r, List.mem_cons_self .., hf.1, ?_⟩
      by_cases hc : f + n ≤ r.2
      · exact hc
      · rcases (in_cons r m r.2).1 (h r.2 (by omega) (by omega)) with h3 | h3
        · omega
        · have := gm _ h3; omega
    · have := gm _ hf
      obtain ⟨s, hs, h3⟩ := ih r.2 h2 f n hn (fun x hx hxn => ((in_cons r m x).1 (h x hx hxn)).resolve_left (by omega))
      exact ⟨s, List.mem_cons_of_mem _ hs, h3⟩
/-- Ahead of the first range with so many numbers no so many are one behind the other. -/
theorem fit_first (m : List R) : ∀ a, RightF a m → ∀ (n at_ : Int), fitL m n = some at_ →
    (∃ r ∈ m, r.1 = at_ ∧ n ≤ r.2 - r.1) ∧ ∀ s ∈ m, s.1 < at_ → s.2 - s.1 < n ∧ s.2 < at_ := by
  induction m with
  | nil => intro a _ n at_ h; simp [fitL] at h
  | cons r m ih =>
    intro a hr n at_ h
    obtain ⟨h0, h1, h2⟩ := hr
    unfold fitL at h
    rw [List.find?_cons] at h
    by_cases hc : n ≤ r.2 - r.1
    · simp [hc] at h
      subst h
      refine ⟨⟨r, List.mem_cons_self .., rfl, hc⟩, fun s hs hlt => ?_⟩
      rcases List.mem_cons.1 hs with rfl | hs
      · omega
      · have := right_mem h2 hs; omega
    · simp [hc] at h
      obtain ⟨⟨s, hs, e1, e2⟩, i2⟩ := ih r.2 h2 n at_ (by unfold fitL; simpa using h)
      refine ⟨⟨s, List.mem_cons_of_mem _ hs, e1, e2⟩, fun t ht hlt => ?_⟩
      rcases List.mem_cons.1 ht with rfl | ht
      · have := right_mem h2 hs; omega
      · exact i2 t ht hlt
theorem fit_none {m : List R} {n : Int} (h : fitL m n = none) : ∀ r ∈ m, r.2 - r.1 < n := by
  intro r hr
  unfold fitL at h
  rw [Option.map_eq_none_iff, List.find?_eq_none] at h
  have := h r hr
  simp at this
  exact this
theorem fit_has {l : List R} {n at_ : Int} (hn : 1 ≤ n) (h : fitL (nl l) n = some at_) : 0 ≤ at_ ∧ (∀ x, at_ ≤ x → x < at_ + n → In l x) ∧ ¬ (0 ≤ at_ - 1 ∧ In l (at_ - 1)) ∧ fitL (bothR l [(0, at_)]) n = none := by
  have hi := nl_is l
  obtain ⟨⟨r, hr, e1, e2⟩, h2⟩ := fit_first (nl l) _ hi.1 n at_ h
  have hm := right_mem hi.1 hr
  subst e1
  refine ⟨by omega, fun x h3 h4 => ((hi.2 x).1 ⟨r, hr, h3, by omega⟩).2, fun hx => ?_, ?_⟩
  · obtain ⟨s, hs, h3, h4⟩ := (hi.2 (r.1 - 1)).2 hx
    have := h2 s hs (by omega)
    omega
  · unfold fitL
    rw [Option.map_eq_none_iff, List.find?_eq_none]
    intro t ht
    simp
    by_cases hc : t.2 - t.1 < n
    · exact hc
    · have hb := bothR_is l [(0, r.1)]
      have hin : ∀ x, t.1 ≤ x → x < t.2 → 0 ≤ x ∧ In l x ∧ In [(0, r.1)] x := fun x h5 h6 => (hb.2 x).1 ⟨t, ht, h5, h6⟩
      obtain ⟨s, hs, h7, h8⟩ := right_run (nl l) _ hi.1 t.1 n hn (fun x h5 h6 => (hi.2 x).2 ⟨(hin x h5 (by omega)).1, (hin x h5 (by omega)).2.1⟩)
      have h9 := (in_one _ _).1 (hin t.1 (Int.le_refl _) (by omega)).2.2
      have := h2 s hs (by omega)
      omega
theorem fit_not {l : List R} {n : Int} (hn : 1 ≤ n) (h : fitL (nl l) n = none) : ∀ r ∈ l, 0 ≤ r.1 → r.2 - r.1 < n := by
  intro r hr h0
  by_cases hc : r.2 - r.1 < n
  · exact hc
  · obtain ⟨s, hs, h1, h2⟩ := right_run (nl l) _ (nl_is l).1 r.1 n hn (fun x h3 h4 => ((nl_is l).2 x).2 ⟨by omega, r, hr, h3, by omega⟩)
    have := fit_none h s hs
    omega
/-- A list moved up. -/
def mv (by_ : Int) (l : List R) : List R := l.map fun r => (r.1 + by_, r.2 + by_)
theorem mv_in (by_ : Int) (l : List R) (x : Int) : In (mv by_ l) x ↔ In l (x - by_) := by
  constructor
  · rintro ⟨s, hs, h1, h2⟩
    obtain ⟨r, hr, rfl⟩ := List.mem_map.1 hs
    simp only at h1 h2
    exact ⟨r, hr, by omega, by omega⟩
  · rintro ⟨r, hr, h1, h2⟩
    exact ⟨_, List.mem_map.2 ⟨r, hr, rfl⟩, by simp only; omega, by simp only; omega⟩
theorem mv_right (by_ : Int) (l : List R) : ∀ a, RightF a l → RightF (a + by_) (mv by_ l) := by
  induction l with
  | nil => intro a _; trivial
  | cons r l ih =>
    intro a h
    obtain ⟨h0, h1, h2⟩ := h
    exact ⟨by show a + by_ < r.1 + by_; omega, by show r.1 + by_ < r.2 + by_; omega, ih r.2 h2⟩
def upR (by_ : Int) (r : R) : R := (min (max r.1 0) 1125899906842624 + by_, max r.2 0 + by_)
theorem up_is (by_ : Int) (h0 : 0 ≤ by_) (l : List R) (hl : ∀ r ∈ l, r.2 ≤ 1125899906842624) : nl (l.map (upR by_)) = mv by_ (nl l) := by
  refine (nl_is _).uniq (p' := fun x => 0 ≤ x - by_ ∧ In l (x - by_)) ⟨right_mono (mv_right by_ _ _ (nl_is l).1) (by omega), fun x => ?_⟩ (fun x => ?_)
  · rw [mv_in, (nl_is l).2]
  · constructor
    · rintro ⟨_, s, hs, h1, h2⟩
      obtain ⟨r, hr, rfl⟩ := List.mem_map.1 hs
      simp only [upR] at h1 h2
      have := hl r hr
      exact ⟨by omega, r, hr, by omega, by omega⟩
    · rintro ⟨h3, r, hr, h1, h2⟩
      have := hl r hr
      exact ⟨by omega, _, List.mem_map.2 ⟨r, hr, rfl⟩, by simp only [upR]; omega, by simp only [upR]; omega⟩
theorem tot_mv (by_ : Int) (l : List R) : tot (mv by_ l) = tot l := by
  induction l with
  | nil => rfl
  | cons r l ih => show (r.2 + by_ - (r.1 + by_)) + tot (mv by_ l) = _; rw [ih]; simp only [tot]; omega
/-! ### Lists changed about -/
theorem turned (a b c : List R) : eitherR a b = eitherR b a ∧ bothR a b = bothR b a ∧ eitherR a a = nl a ∧ eitherR (eitherR a b) c = eitherR a (eitherR b c) ∧ bothR (bothR a b) c = bothR a (bothR b c) ∧
    lessR (lessR a b) c = lessR a (eitherR b c) ∧ bothR a (eitherR b c) = eitherR (bothR a b) (bothR a c) := by
  have H : ∀ m p, Is m p → ∀ x, In m x ↔ p x := fun m p h => h.2
  have He := fun a b => H _ _ (eitherR_is a b)
  have Hb := fun a b => H _ _ (bothR_is a b)
  have Hl := fun a b => H _ _ (lessR_is a b)
  refine ⟨(eitherR_is a b).uniq (eitherR_is b a) fun x => ?_, (bothR_is a b).uniq (bothR_is b a) fun x => ?_, (eitherR_is a a).uniq (nl_is a) fun x => ?_, (eitherR_is _ _).uniq (eitherR_is _ _) fun x => ?_,
    (bothR_is _ _).uniq (bothR_is _ _) fun x => ?_, (lessR_is _ _).uniq (lessR_is _ _) fun x => ?_, (bothR_is _ _).uniq (eitherR_is _ _) fun x => ?_⟩
  · simp only [Or.comm]
  · simp only [And.comm]
  · simp only [or_self]
  · simp only [He]
    constructor
    · rintro ⟨h0, ⟨_, h | h⟩ | h⟩
      · exact ⟨h0, .inl h⟩
      · exact ⟨h0, .inr ⟨h0, .inl h⟩⟩
      · exact ⟨h0, .inr ⟨h0, .inr h⟩⟩
    · rintro ⟨h0, h | ⟨_, h | h⟩⟩
      · exact ⟨h0, .inl ⟨h0, .inl h⟩⟩
      · exact ⟨h0, .inl ⟨h0, .inr h⟩⟩
      · exact ⟨h0, .inr h⟩
  · simp only [Hb]
    exact ⟨fun h => ⟨h.1, h.2.1.2.1, h.1, h.2.1.2.2, h.2.2⟩, fun h => ⟨h.1, ⟨h.1, h.2.1, h.2.2.2.1⟩, h.2.2.2.2⟩⟩
  · simp only [Hl, He]
    exact ⟨fun h => ⟨h.1, h.2.1.2.1, fun hx => hx.2.elim h.2.1.2.2 h.2.2⟩, fun h => ⟨h.1, ⟨h.1, h.2.1, fun hb => h.2.2 ⟨h.1, .inl hb⟩⟩, fun hc => h.2.2 ⟨h.1, .inr hc⟩⟩⟩
  · simp only [Hb, He]
    constructor
    · rintro ⟨h0, ha, _, h | h⟩
      · exact ⟨h0, .inl ⟨h0, ha, h⟩⟩
      · exact ⟨h0, .inr ⟨h0, ha, h⟩⟩
    · rintro ⟨h0, ⟨_, ha, h⟩ | ⟨_, ha, h⟩⟩
      · exact ⟨h0, ha, h0, .inl h⟩
      · exact ⟨h0, ha, h0, .inr h⟩
theorem sets_join (a b : List R) : eitherR (lessR a b) (bothR a b) = nl a ∧ bothR (lessR a b) b = [] := by
  have H : ∀ m p, Is m p → ∀ x, In m x ↔ p x := fun m p h => h.2
  have Hb := fun a b => H _ _ (bothR_is a b)
  have Hl := fun a b => H _ _ (lessR_is a b)
  refine ⟨(eitherR_is _ _).uniq (nl_is a) fun x => ?_, (bothR_is _ _).uniq (m' := []) (p' := fun _ => False) ⟨trivial, fun x => ⟨in_nil x, fun h => h.elim⟩⟩ fun x => ?_⟩
  · simp only [Hl, Hb]
    constructor
    · rintro ⟨h0, h | h⟩
      · exact ⟨h0, h.2.1⟩
      · exact ⟨h0, h.2.1⟩
    · rintro ⟨h0, h⟩
      by_cases hb : In b x
      · exact ⟨h0, .inr ⟨h0, h, hb⟩⟩
      · exact ⟨h0, .inl ⟨h0, h, hb⟩⟩
  · simp only [Hl]
    exact ⟨fun h => h.2.1.2.2 h.2.2, fun h => h.elim⟩
end Go.Proofs.Ytdpjblepcpjomaa
