/-
  How many steps a made plan has; its waves; plain.
-/
import Derived.Test.YteceephenfmdoaaKLawr
import Derived.Test.YteceephenfmdoaaMTot
namespace Go.Proofs.Yteceephenfmdoaa
open Classical in
/-- How many blocks of a target stay. -/
noncomputable def staysN (l : List S) (N : Nat) : Nat := ((List.range N).filter fun j => decide (Stays l j)).length
open Classical in
theorem staysN_next (l : List S) (k : Nat) : staysN l (k + 1) = staysN l k + (if Stays l k then 1 else 0) := by
  unfold staysN
  rw [List.range_succ, List.filter_append, List.length_append]
  congr 1
  by_cases h : Stays l k <;> simp [h]
theorem staysN_le (l : List S) (N : Nat) : staysN l N ≤ N := by
  unfold staysN
  have := List.length_filter_le (fun j => @decide (Stays l j) (Classical.propDecidable _)) (List.range N)
  simpa using this
open Classical in
theorem steps_count {l : List S} {o : List Stp} (hN : (o.map Prod.fst).Nodup) (hs : ∀ s ∈ o, StepOf l s) (hall : ∀ j : Nat, 64 * (j : Int) < Sc.tot l → (∃ s ∈ o, s.1 = j) ∨ Stays l j) {N : Nat} (hb : ∀ j : Nat, j < N ↔ 64 * (j : Int) < Sc.tot l) : o.length + staysN l N = N := by
  have h1 : ((o.map Prod.fst).Perm (((List.range N).filter fun j => !decide (Stays l j)).map fun (j : Nat) => (j : Int))) := by
    refine (List.perm_ext_iff_of_nodup hN ?_).2 fun b => ?_
    · rw [List.nodup_iff_pairwise_ne, List.pairwise_map]
      exact ((List.pairwise_lt_range.sublist List.filter_sublist).imp fun {i j} h => by omega)
    · constructor
      · intro hb'
        obtain ⟨s, hs', rfl⟩ := List.mem_map.1 hb'
        have hst := hs s hs'
        have hlo := hst.lo
        refine List.mem_map.2 ⟨s.1.toNat, List.mem_filter.2 ⟨List.mem_range.2 ((hb _).2 (by have := hst.hi; omega)), by simpa using hst.moves⟩, by omega⟩
      · intro hb'
        obtain ⟨j, hj, rfl⟩ := List.mem_map.1 hb'
        obtain ⟨h2, h3⟩ := List.mem_filter.1 hj
        rcases hall j ((hb j).1 (List.mem_range.1 h2)) with ⟨s, h4, h5⟩ | h4
        · exact List.mem_map.2 ⟨s, h4, h5⟩
        · simp [h4] at h3
  have h2 := h1.length_eq
  rw [List.length_map, List.length_map] at h2
  have h3 : ∀ L : List Nat, (L.filter fun j => !decide (Stays l j)).length + (L.filter fun j => decide (Stays l j)).length = L.length := by
    intro L
    induction L with
    | nil => rfl
    | cons a L ih =>
      rw [List.filter_cons, List.filter_cons]
      by_cases h : Stays l a <;> simp [h] <;> omega
  have h4 := h3 (List.range N)
  rw [List.length_range] at h4
  unfold staysN
  omega
theorem chunks_len {α : Type} {m : Nat} (hm : 1 ≤ m) : ∀ (n : Nat) (l : List α), l.length ≤ n → (∀ v ∈ chunks m l, 1 ≤ v.length ∧ v.length ≤ m) ∧ ((chunks m l).map List.length).sum = l.length := by
  intro n
  induction n with
  | zero =>
    intro l h
    have : l = [] := List.length_eq_zero_iff.1 (by omega)
    subst this
    exact ⟨fun v hv => (by rw [chunks_nil] at hv; cases hv), rfl⟩
  | succ n ih =>
    intro l h
    by_cases hl : l = []
    · subst hl; exact ⟨fun v hv => (by rw [chunks_nil] at hv; cases hv), rfl⟩
    · have hp : 0 < l.length := List.length_pos_iff.2 hl
      obtain ⟨h1, h2⟩ := ih (l.drop m) (by rw [List.length_drop]; omega)
      rw [chunks_next hm hl]
      refine ⟨fun v hv => ?_, ?_⟩
      · rcases List.mem_cons.1 hv with rfl | hv
        · rw [List.length_take]; omega
        · exact h1 v hv
      · rw [List.map_cons, List.sum_cons, h2, List.length_take, List.length_drop]; omega
theorem chunks_count {α : Type} {m : Nat} (hm : 1 ≤ m) (l : List α) : (chunks m l).length ≤ l.length := by
  obtain ⟨h1, h2⟩ := chunks_len hm _ l (Nat.le_refl _)
  have : ∀ L : List (List α), (∀ v ∈ L, 1 ≤ v.length) → L.length ≤ (L.map List.length).sum := by
    intro L
    induction L with
    | nil => intro _; simp
    | cons v L ih =>
      intro h
      have := ih (fun u hu => h u (by simp [hu]))
      have := h v (by simp)
      simp only [List.length_cons, List.map_cons, List.sum_cons]; omega
  have := this _ (fun v hv => (h1 v hv).1)
  omega
theorem sumS_map (W : List WvV) : sumS W = ((W.map WvV.wv).map List.length).sum := by
  induction W with
  | nil => rfl
  | cons v W ih => simp only [sumS, List.map_cons, List.sum_cons, ih]; simp [WvV.wv]
/-- What a made plan's waves are. -/
structure MadeW (l : List S) (most : Nat) (p : Pln) : Prop where
  size : p.size = Sc.tot l
  each : ∀ v ∈ p.waves, 1 ≤ v.length ∧ v.length ≤ most
  sum : (p.waves.map List.length).sum + staysN l (blocksN (Sc.tot l)).toNat = (blocksN (Sc.tot l)).toNat
  few : p.waves.length ≤ (blocksN (Sc.tot l)).toNat
theorem blocksN_iff {n : Int} (_h : 0 ≤ n) (j : Nat) : j < (blocksN n).toNat ↔ 64 * (j : Int) < n := by unfold blocksN; omega
theorem MakeP.waves {l : List S} (hl : Sc.Ok l) {most : Nat} (hm : 1 ≤ most) {p : Pln} (h : MakeP l most p) : MadeW l most p := by
  obtain ⟨o, stash, rfl, hR, hin, ho, hall, hnd, hpw, _, _⟩ := h
  have h1 := chunks_len hm _ (o.map (movedS stash)) (Nat.le_refl _)
  have h2 := steps_count hnd ho hall (blocksN_iff (Sc.tot_nonneg l hl))
  have h3 := chunks_count hm (o.map (movedS stash))
  rw [List.length_map] at h1 h3
  refine ⟨rfl, h1.1, by rw [h1.2]; exact h2, by show (chunks _ _).length ≤ _; omega⟩
theorem one_each {W : List (List Stp)} (h : ∀ v ∈ W, 1 ≤ v.length ∧ v.length ≤ 1) : W.length = (W.map List.length).sum := by
  induction W with
  | nil => rfl
  | cons v W ih =>
    have := h v (by simp)
    have := ih (fun u hu => h u (by simp [hu]))
    simp only [List.length_cons, List.map_cons, List.sum_cons]; omega
/-- The document's first example: two waves, one range put aside. -/
theorem ex_made {p : Pln} (h : MakeP exL 1 p) : p.size = 128 ∧ p.waves.length = 2 ∧ p.stash = [(0, 64)] ∧ (p.waves.map List.length).sum = 2 := by
  have hok : Sc.Ok exL := fun s hs => by
    simp [exL] at hs
    rcases hs with rfl | rfl <;> (unfold Sc.okS; simp)
  have h1 := h.waves hok (Nat.le_refl _)
  have ht : Sc.tot exL = 128 := by decide
  have hn : (blocksN (Sc.tot exL)).toNat = 2 := by rw [ht]; decide
  have hs : staysN exL 2 = 0 := by
    rw [staysN_next, staysN_next]
    have n0 : ¬ Stays exL 0 := fun h => by unfold Stays at h; rw [ex_blk0] at h; revert h; decide
    have n1 : ¬ Stays exL 1 := fun h => by unfold Stays at h; rw [ex_blk1] at h; revert h; decide
    rw [if_neg n0, if_neg n1]
    simp [staysN]
  have h2 := h1.sum
  rw [hn, hs] at h2
  have h3 := one_each h1.each
  obtain ⟨o, stash, rfl, _, _, _, _, _, _, _, he⟩ := h
  exact ⟨ht, by omega, he rfl, h2⟩
end Go.Proofs.Yteceephenfmdoaa
