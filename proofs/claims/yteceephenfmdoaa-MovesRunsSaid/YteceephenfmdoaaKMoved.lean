/-
  A step's parts, those that are stashed taken from there: plain.
-/
import Derived.Test.YteceephenfmdoaaKReads
import Derived.Test.YteceephenfmdoaaSC
import Derived.Test.YteceephenfmdoaaMWrit
namespace Go.Proofs.Yteceephenfmdoaa
/-- Where a byte of the original stands in the stash. -/
def rnk : List R → Int → Int
  | [], _ => 0
  | r :: l, p => if p < r.2 then p - r.1 else (r.2 - r.1) + rnk l p
theorem rnk_at : ∀ (l : List R) (a : Int) (j : Nat) (r : R) (p : Int), RightF a l → l[j]? = some r → r.1 ≤ p → p < r.2 → rnk l p = tot (l.take j) + (p - r.1) := by
  intro l
  induction l with
  | nil => intro a j r p _ h; simp at h
  | cons s l ih =>
    intro a j r p h hj h1 h2
    obtain ⟨h3, h4, h5⟩ := h
    cases j with
    | zero => simp at hj; subst hj; simp [rnk, tot, h2]
    | succ j =>
      have hj' : l[j]? = some r := by simpa using hj
      have h6 := right_mem h5 (List.mem_of_getElem? hj')
      have h7 := ih s.2 j r p h5 hj' h1 h2
      simp only [rnk, List.take_succ_cons, tot]
      rw [if_neg (by omega), h7]
      omega
open Classical in
/-- A byte, taken from the stash if it is there. -/
noncomputable def mvB (stash : List R) (q : Int × Int) : Int × Int := if q.1 = 0 ∧ In stash q.2 then (2, rnk stash q.2) else q
open Classical in
theorem mvB_no {stash : List R} {q : Int × Int} (h : ¬ (q.1 = 0 ∧ In stash q.2)) : mvB stash q = q := by unfold mvB; exact if_neg h
open Classical in
theorem mvB_yes {stash : List R} {q : Int × Int} (h : q.1 = 0 ∧ In stash q.2) : mvB stash q = (2, rnk stash q.2) := by unfold mvB; exact if_pos h
theorem sb_mem (s : S) (q : Int × Int) (h : q ∈ Sc.sb s) : q.1 = s.src ∧ s.at_ ≤ q.2 ∧ q.2 < s.at_ + s.len := by
  obtain ⟨i, hi, rfl⟩ := List.mem_map.1 h
  have := List.mem_range.1 hi
  exact ⟨rfl, by simp only; omega, by simp only; omega⟩
theorem sb_stay (stash : List R) (s : S) (h : s.src = 0 → ∀ p, s.at_ ≤ p → p < s.at_ + s.len → ¬ In stash p) : (Sc.sb s).map (mvB stash) = Sc.sb s := by
  conv => rhs; rw [← List.map_id (Sc.sb s)]
  refine List.map_congr_left fun q hq => ?_
  obtain ⟨h1, h2, h3⟩ := sb_mem s q hq
  exact mvB_no fun h4 => h (h1 ▸ h4.1) q.2 h2 h3 h4.2
theorem sb_move (stash : List R) (a n c : Int) (h : ∀ p, a ≤ p → p < a + n → In stash p ∧ rnk stash p = c + (p - a)) : (Sc.sb ⟨0, a, n⟩).map (mvB stash) = Sc.sb ⟨2, c, n⟩ := by
  unfold Sc.sb
  rw [List.map_map]
  refine List.map_congr_left fun i hi => ?_
  have := List.mem_range.1 hi
  simp only at this
  obtain ⟨h1, h2⟩ := h (a + i) (by omega) (by omega)
  show mvB stash (0, a + (i : Int)) = (2, c + (i : Int))
  rw [mvB_yes ⟨rfl, h1⟩]
  simp only [Prod.mk.injEq, true_and]
  rw [h2]; omega
/-- One range of the stash more: what came out, how many bytes stand ahead, the place. -/
def mst (x : S) (s : List S × Int × Int) (r : R) : List S × Int × Int :=
  if max r.1 s.2.2 < min r.2 (x.at_ + x.len) then (s.1 ++ ((if s.2.2 < max r.1 s.2.2 then [⟨0, s.2.2, max r.1 s.2.2 - s.2.2⟩] else []) ++ [⟨2, s.2.1 + max r.1 s.2.2 - r.1, min r.2 (x.at_ + x.len) - max r.1 s.2.2⟩]), s.2.1 + (r.2 - r.1), min r.2 (x.at_ + x.len)) else (s.1, s.2.1 + (r.2 - r.1), s.2.2)
def mvF (x : S) (l : List R) : List S × Int × Int := l.foldl (mst x) ([], 0, x.at_)
theorem mvF_next (x : S) {l : List R} {j : Nat} {r : R} (h : l[j]? = some r) : mvF x (l.take (j + 1)) = mst x (mvF x (l.take j)) r := by
  unfold mvF; rw [Sc.take_snoc l j r h, List.foldl_append]; rfl
/-- Ranges behind the scrap change no more than the count. -/
theorem mst_far {x : S} {s : List S × Int × Int} {r : R} (h : x.at_ + x.len ≤ r.1) : (mst x s r).1 = s.1 ∧ (mst x s r).2.2 = s.2.2 := by
  unfold mst
  rw [if_neg (by omega)]
  exact ⟨rfl, rfl⟩
theorem fold_far (x : S) : ∀ (l : List R) (s : List S × Int × Int), (∀ r ∈ l, x.at_ + x.len ≤ r.1) → (l.foldl (mst x) s).1 = s.1 ∧ (l.foldl (mst x) s).2.2 = s.2.2 := by
  intro l
  induction l with
  | nil => intro s _; exact ⟨rfl, rfl⟩
  | cons r l ih =>
    intro s h
    have h1 := mst_far (s := s) (h r (by simp))
    have h2 := ih (mst x s r) (fun r hr => h r (by simp [hr]))
    rw [List.foldl_cons]
    exact ⟨h2.1.trans h1.1, h2.2.trans h1.2⟩
theorem mvF_stop (x : S) {l : List R} (hR : Right l) {j : Nat} {r : R} (h : l[j]? = some r) (hr : x.at_ + x.len ≤ r.1) : (mvF x l).1 = (mvF x (l.take j)).1 ∧ (mvF x l).2.2 = (mvF x (l.take j)).2.2 := by
  have hk := List.getElem?_eq_some_iff.1 h
  have e : l = l.take j ++ (r :: l.drop (j + 1)) := by rw [← hk.2, ← List.drop_eq_getElem_cons, List.take_append_drop]
  have h1 : ∀ s ∈ r :: l.drop (j + 1), x.at_ + x.len ≤ s.1 := by
    have h2 : RightF (lastTo (-1) (l.take j)) (r :: l.drop (j + 1)) := ((right_append _ _ _).1 (by rw [← e]; exact hR)).2
    intro s hs
    rcases List.mem_cons.1 hs with rfl | hs
    · exact hr
    · have := right_mem h2.2.2 hs; have := h2.2.1; omega
  have h3 := fold_far x (r :: l.drop (j + 1)) (mvF x (l.take j)) h1
  have e2 : mvF x l = (r :: l.drop (j + 1)).foldl (mst x) (mvF x (l.take j)) := by
    conv => lhs; rw [e]
    unfold mvF; rw [List.foldl_append]
  rw [e2]; exact h3
/-- What is known behind so many ranges. -/
structure MvI (x : S) (stash : List R) (j : Nat) (s : List S × Int × Int) : Prop where
  ahead : s.2.1 = tot (stash.take j)
  lo : x.at_ ≤ s.2.2
  hi : s.2.2 ≤ x.at_ + x.len
  ok : Sc.Ok s.1
  bt : Sc.bts s.1 = (Sc.sb ⟨0, x.at_, s.2.2 - x.at_⟩).map (mvB stash)
  clear : ∀ p, s.2.2 ≤ p → p < x.at_ + x.len → ¬ In (stash.take j) p
theorem in_split {l : List R} {j : Nat} {r : R} (h : l[j]? = some r) (p : Int) : In l p ↔ In (l.take j) p ∨ (r.1 ≤ p ∧ p < r.2) ∨ In (l.drop (j + 1)) p := by
  have hk := List.getElem?_eq_some_iff.1 h
  have e : l = l.take j ++ (r :: l.drop (j + 1)) := by rw [← hk.2, ← List.drop_eq_getElem_cons, List.take_append_drop]
  conv => lhs; rw [e]
  rw [in_append, in_cons]
theorem in_later {l : List R} (hR : Right l) {j : Nat} {r : R} (h : l[j]? = some r) {p : Int} (hp : In (l.drop (j + 1)) p) : r.2 < p := by
  have hk := List.getElem?_eq_some_iff.1 h
  have e : l = l.take j ++ (r :: l.drop (j + 1)) := by rw [← hk.2, ← List.drop_eq_getElem_cons, List.take_append_drop]
  have h2 : RightF (lastTo (-1) (l.take j)) (r :: l.drop (j + 1)) := ((right_append _ _ _).1 (by rw [← e]; exact hR)).2
  exact right_above h2.2.2 hp
theorem in_take_next {l : List R} {j : Nat} {r : R} (h : l[j]? = some r) (p : Int) : In (l.take (j + 1)) p ↔ In (l.take j) p ∨ (r.1 ≤ p ∧ p < r.2) := by
  rw [Sc.take_snoc l j r h, in_append, in_one]
theorem mv_inv (x : S) (hx : Sc.okS x) {stash : List R} (hR : Right stash) (hT : tot stash ≤ 1048576) : ∀ j, j ≤ stash.length → MvI x stash j (mvF x (stash.take j)) := by
  intro j
  have hx' := hx
  unfold Sc.okS at hx'
  induction j with
  | zero =>
    intro _
    refine ⟨by simp [mvF, tot], Int.le_refl _, by show x.at_ ≤ _; omega, fun s hs => by simp [mvF] at hs, ?_, fun p _ _ h => by simp at h; exact in_nil p h⟩
    show Sc.bts [] = (Sc.sb ⟨0, x.at_, x.at_ - x.at_⟩).map (mvB stash)
    simp [Sc.bts, Sc.sb]
  | succ j ih =>
    intro hj
    have I := ih (by omega)
    obtain ⟨r, hr⟩ := Sc.get_some stash j (by omega)
    have hrn := right_mem hR (List.mem_of_getElem? hr)
    have hta := tot_take hr
    have htr := (right_tot (right_take hR j)).1
    have htr2 : tot (stash.take (j + 1)) ≤ tot stash := by
      have e : stash = stash.take (j + 1) ++ stash.drop (j + 1) := (List.take_append_drop _ _).symm
      have h1 : RightF (lastTo (-1) (stash.take (j + 1))) (stash.drop (j + 1)) := ((right_append _ _ _).1 (by rw [← e]; exact hR)).2
      have h2 := (tot_le _ _ h1).1
      have h3 : ∀ (a b : List R), tot (a ++ b) = tot a + tot b := by
        intro a b; induction a with
        | nil => simp [tot]
        | cons q a ih => simp only [List.cons_append, tot, ih]; omega
      have h4 := h3 (stash.take (j + 1)) (stash.drop (j + 1))
      rw [← e] at h4; omega
    rw [mvF_next x hr]
    generalize hs0 : mvF x (stash.take j) = s0 at *
    obtain ⟨o, ahead, at_⟩ := s0
    obtain ⟨i1, i2, i3, i4, i5, i6⟩ := I
    simp only at i1 i2 i3 i4 i5 i6
    have hlater : ∀ p, p < r.2 → ¬ In (stash.drop (j + 1)) p := fun p hp h => by have := in_later hR hr h; omega
    unfold mst
    simp only
    by_cases hft : max r.1 at_ < min r.2 (x.at_ + x.len)
    · rw [if_pos hft]
      generalize hf : max r.1 at_ = f at *
      generalize ht : min r.2 (x.at_ + x.len) = t at *
      have e1 : (if at_ < f then [(⟨0, at_, f - at_⟩ : S)] else []) = (if at_ < f then [(⟨0, at_, f - at_⟩ : S)] else []) := rfl
      have hno : ∀ p, at_ ≤ p → p < f → ¬ In stash p := fun p p1 p2 h => by
        rcases (in_split hr p).1 h with h | h | h
        · exact i6 p p1 (by omega) h
        · omega
        · exact hlater p (by omega) h
      have hyes : ∀ p, f ≤ p → p < f + (t - f) → In stash p ∧ rnk stash p = (ahead + f - r.1) + (p - f) := fun p p1 p2 => by
        refine ⟨(in_split hr p).2 (.inr (.inl ⟨by omega, by omega⟩)), ?_⟩
        rw [rnk_at stash (-1) j r p hR hr (by omega) (by omega), i1]; omega
      refine ⟨by show ahead + (r.2 - r.1) = _; rw [hta, i1], by show x.at_ ≤ t; omega, by show t ≤ _; omega, ?_, ?_, fun p p1 p2 h => ?_⟩
      · show Sc.Ok (o ++ _)
        intro s hs
        rcases List.mem_append.1 hs with hs | hs
        · exact i4 s hs
        · rcases List.mem_append.1 hs with hs | hs
          · split at hs
            · simp at hs; subst hs; unfold Sc.okS; simp only; omega
            · cases hs
          · simp at hs; subst hs; unfold Sc.okS; simp only; omega
      · show Sc.bts (o ++ _) = (Sc.sb ⟨0, x.at_, t - x.at_⟩).map (mvB stash)
        have e2 : t - x.at_ = (at_ - x.at_) + (f - at_) + (t - f) := by omega
        have s1 := Sc.sb_add 0 x.at_ ((at_ - x.at_) + (f - at_)) (t - f) (by omega) (by omega)
        have s2 := Sc.sb_add 0 x.at_ (at_ - x.at_) (f - at_) (by omega) (by omega)
        rw [e2, s1, s2, List.map_append, List.map_append, Sc.bts_append, Sc.bts_append, i5, Sc.bts_one, List.append_assoc]
        have e3 : x.at_ + (at_ - x.at_) = at_ := by omega
        have e4 : x.at_ + ((at_ - x.at_) + (f - at_)) = f := by omega
        rw [e3, e4, sb_move stash f (t - f) (ahead + f - r.1) hyes, sb_stay stash ⟨0, at_, f - at_⟩ (fun _ p p1 p2 => hno p p1 (by simp only at p2; omega))]
        congr 2
        split
        · rw [Sc.bts_one]
        · have : f - at_ = 0 := by omega
          rw [this]; simp [Sc.bts, Sc.sb]
      · rcases (in_take_next hr p).1 h with h | h
        · exact i6 p (by simp only at p1; omega) p2 h
        · simp only at p1; omega
    · rw [if_neg hft]
      refine ⟨by show ahead + (r.2 - r.1) = _; rw [hta, i1], i2, i3, i4, i5, fun p p1 p2 h => ?_⟩
      rcases (in_take_next hr p).1 h with h | h
      · exact i6 p p1 p2 h
      · simp only at p1; omega
/-- What is left of a scrap behind the last range of the stash. -/
def mvT (x : S) (a : Int) : List S := if a < x.at_ + x.len then [⟨x.src, a, x.at_ + x.len - a⟩] else []
def mvO (stash : List R) (x : S) : List S := if x.src = 0 then (mvF x stash).1 ++ mvT x (mvF x stash).2.2 else [x]
theorem mvO_ok (x : S) (hx : Sc.okS x) {stash : List R} (hR : Right stash) (hT : tot stash ≤ 1048576) : Sc.Ok (mvO stash x) ∧ Sc.bts (mvO stash x) = (Sc.sb x).map (mvB stash) := by
  unfold mvO
  by_cases h0 : x.src = 0
  · rw [if_pos h0]
    have I := mv_inv x hx hR hT stash.length (Nat.le_refl _)
    rw [List.take_length] at I
    unfold Sc.okS at hx
    obtain ⟨src, xat, len⟩ := x
    simp only at h0
    subst h0
    have i2 := I.lo; have i3 := I.hi
    have h5 : ∀ p, (mvF ⟨0, xat, len⟩ stash).2.2 ≤ p → p < xat + len → ¬ In stash p := by have := I.clear; rwa [List.take_length] at this
    simp only at i2 i3 h5 hx
    refine ⟨?_, ?_⟩
    · intro s hs
      rcases List.mem_append.1 hs with hs | hs
      · exact I.ok s hs
      · unfold mvT at hs
        split at hs
        · simp at hs; subst hs; unfold Sc.okS; simp only at *; omega
        · cases hs
    · rw [Sc.bts_append, I.bt]
      generalize (mvF ⟨0, xat, len⟩ stash).2.2 = a at *
      have e : len = (a - xat) + (xat + len - a) := by omega
      have s1 := Sc.sb_add 0 xat (a - xat) (xat + len - a) (by omega) (by omega)
      rw [← e] at s1
      rw [s1, List.map_append]
      have e3 : xat + (a - xat) = a := by omega
      rw [e3, sb_stay stash ⟨0, a, xat + len - a⟩ (fun _ p p1 p2 => h5 p p1 (by simp only at p2; omega))]
      congr 1
      unfold mvT
      simp only
      split
      · rw [Sc.bts_one]
      · have : xat + len - a = 0 := by omega
        rw [this]; simp [Sc.bts, Sc.sb]
  · rw [if_neg h0]
    refine ⟨fun s hs => by simp at hs; subst hs; exact hx, ?_⟩
    rw [Sc.bts_one, sb_stay stash x (fun h => absurd h h0)]
noncomputable def movedL (parts : List S) (stash : List R) : List S := Sc.joinL (parts.flatMap (mvO stash))
theorem flat_mv {parts : List S} (hp : Sc.Ok parts) {stash : List R} (hR : Right stash) (hT : tot stash ≤ 1048576) : Sc.Ok (parts.flatMap (mvO stash)) ∧ Sc.bts (parts.flatMap (mvO stash)) = (Sc.bts parts).map (mvB stash) := by
  induction parts with
  | nil => exact ⟨fun s hs => by simp at hs, by simp [Sc.bts]⟩
  | cons x l ih =>
    obtain ⟨h1, h2⟩ := mvO_ok x (hp x (by simp)) hR hT
    obtain ⟨h3, h4⟩ := ih hp.tail
    rw [List.flatMap_cons]
    exact ⟨h1.append h3, by rw [Sc.bts_append, h2, h4, Sc.bts_cons, List.map_append]⟩
theorem flat_may {parts : List S} (hp : Sc.MayP parts) {stash : List R} (hR : Right stash) (hT : tot stash ≤ 1048576) : Sc.MayP (parts.flatMap (mvO stash)) := by
  obtain ⟨h1, h2⟩ := flat_mv hp.1 hR hT
  refine ⟨h1, ?_⟩
  have h3 := Sc.bts_length h1
  have h4 := Sc.bts_length hp.1
  rw [h2, List.length_map] at h3
  have := hp.2; omega
theorem moved_ok {parts : List S} (hp : Sc.MayP parts) {stash : List R} (hR : Right stash) (hT : tot stash ≤ 1048576) : Sc.MayP (movedL parts stash) ∧ Sc.bts (movedL parts stash) = (Sc.bts parts).map (mvB stash) ∧ Sc.joinL (movedL parts stash) = movedL parts stash ∧ Sc.tot (movedL parts stash) = Sc.tot parts := by
  obtain ⟨h1, h2⟩ := flat_mv hp.1 hR hT
  have h3 := flat_may hp hR hT
  have h5 : Sc.bts (movedL parts stash) = (Sc.bts parts).map (mvB stash) := (Sc.bts_joinL h1).trans h2
  refine ⟨Sc.may_joinL h1 h3.2, h5, Sc.joinL_joinL h1, ?_⟩
  have h6 := Sc.bts_length (Sc.joinL_ok h1)
  have h7 := Sc.bts_length hp.1
  have h8 : Sc.bts (Sc.joinL (parts.flatMap (mvO stash))) = (Sc.bts parts).map (mvB stash) := h5
  rw [h8, List.length_map] at h6
  show Sc.tot (Sc.joinL (parts.flatMap (mvO stash))) = _
  omega
end Go.Proofs.Yteceephenfmdoaa
