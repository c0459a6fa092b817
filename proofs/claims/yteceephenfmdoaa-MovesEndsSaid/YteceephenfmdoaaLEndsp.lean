/-
  A target that is a beginning of the original with the tail behind; plain.
-/
import Derived.Test.YteceephenfmdoaaNLaw
import Derived.Test.YteceephenfmdoaaSC
namespace Go.Proofs.Yteceephenfmdoaa
theorem Sc.RdB.take {w : World} {B : Nat} {A : Option Addr} {l : List Int} (h : Sc.RdB w B A l) (k : Nat) : Sc.RdB w B A (l.take k) := fun i x hi => h i x (by
  rw [List.getElem?_take] at hi
  split at hi
  · exact hi
  · cases hi)
theorem chunks_mem {α : Type} {m : Nat} (hm : 1 ≤ m) : ∀ (n : Nat) (l : List α), l.length ≤ n → ∀ v ∈ chunks m l, ∀ s ∈ v, s ∈ l := by
  intro n
  induction n with
  | zero =>
    intro l h v hv
    have : l = [] := List.length_eq_zero_iff.1 (by omega)
    subst this
    rw [chunks_nil] at hv; cases hv
  | succ n ih =>
    intro l h v hv s hs
    by_cases hl : l = []
    · subst hl; rw [chunks_nil] at hv; cases hv
    · have hp : 0 < l.length := List.length_pos_iff.2 hl
      rw [chunks_next hm hl] at hv
      rcases List.mem_cons.1 hv with rfl | hv
      · exact List.mem_of_mem_take hs
      · exact List.mem_of_mem_drop (ih (l.drop m) (by rw [List.length_drop]; omega) v hv s hs)
/-- What each block of a made plan is. -/
theorem MakeP.blocks {l : List S} {most : Nat} (hm : 1 ≤ most) {p : Pln} (h : MakeP l most p) : ∀ v ∈ p.waves, ∀ s ∈ v, 0 ≤ s.1 ∧ 64 * s.1 < Sc.tot l ∧ ¬ Stays l s.1.toNat := by
  obtain ⟨o, stash, rfl, hR, hin, ho, hall, hnd, hpw, _, _⟩ := h
  intro v hv s hs
  have h1 := chunks_mem hm _ _ (Nat.le_refl _) v hv s hs
  obtain ⟨t, ht, rfl⟩ := List.mem_map.1 h1
  have h2 := ho t ht
  exact ⟨h2.lo, h2.hi, h2.moves⟩
def begL (cut : Nat) : List S := if 0 < cut then [⟨0, 0, (cut : Int)⟩] else []
theorem begL_pos {cut : Nat} (h : 0 < cut) : begL cut = [⟨0, 0, (cut : Int)⟩] := if_pos h
theorem begL_zero {cut : Nat} (h : ¬ 0 < cut) : begL cut = [] := if_neg h
def endL (cut tn : Nat) : List S := begL cut ++ (if 0 < tn then [⟨1, 0, (tn : Int)⟩] else [])
theorem end_tot (cut tn : Nat) : Sc.tot (endL cut tn) = (cut : Int) + tn := by
  unfold endL begL
  rw [Sc.tot_append]
  split <;> split <;> simp only [Sc.tot] <;> omega
theorem end_bts (cut tn : Nat) : Sc.bts (endL cut tn) = Sc.sb ⟨0, 0, (cut : Int)⟩ ++ Sc.sb ⟨1, 0, (tn : Int)⟩ := by
  unfold endL begL
  rw [Sc.bts_append]
  have e : ∀ (src : Int) (n : Nat), Sc.bts (if 0 < n then [⟨src, 0, (n : Int)⟩] else []) = Sc.sb ⟨src, 0, (n : Int)⟩ := fun src n => by
    split
    · exact Sc.bts_one _
    · have : n = 0 := by omega
      subst this
      simp [Sc.bts, Sc.sb]
  rw [e 0 cut, e 1 tn]
theorem end_target {cut tn on : Nat} (hc : cut ≤ on) (ho : on ≤ 100000) (ht : tn ≤ 100000) : TargetP (endL cut tn) on := by
  have hm : ∀ s ∈ endL cut tn, (s = ⟨0, 0, (cut : Int)⟩ ∧ 0 < cut) ∨ (s = ⟨1, 0, (tn : Int)⟩ ∧ 0 < tn) := fun s hs => by
    unfold endL begL at hs
    rcases List.mem_append.1 hs with h | h
    · split at h
      · simp at h; exact .inl ⟨h, by assumption⟩
      · cases h
    · split at h
      · simp at h; exact .inr ⟨h, by assumption⟩
      · cases h
  refine ⟨⟨fun s hs => ?_, by rw [end_tot]; omega⟩, fun s hs => ?_⟩
  · rcases hm s hs with ⟨rfl, h⟩ | ⟨rfl, h⟩ <;> (unfold Sc.okS; simp only; omega)
  · rcases hm s hs with ⟨rfl, h⟩ | ⟨rfl, h⟩
    · exact ⟨by simp, fun _ => by simp only; omega⟩
    · exact ⟨by simp, fun h => by simp at h⟩
theorem end_tail {cut tn : Nat} : ∀ s ∈ endL cut tn, s.src = 1 → s.at_ + s.len ≤ (tn : Int) := fun s hs h1 => by
  unfold endL begL at hs
  rcases List.mem_append.1 hs with h | h
  · split at h
    · simp at h; subst h; simp at h1
    · cases h
  · split at h
    · simp at h; subst h; simp only; omega
    · cases h
theorem end_rises (cut tn : Nat) : Rises (endL cut tn) := by
  unfold Rises
  rw [end_bts, List.pairwise_append]
  refine ⟨?_, ?_, fun a _ b hb _ h1 => ?_⟩
  · unfold Sc.sb
    rw [List.pairwise_map]
    exact List.pairwise_lt_range.imp fun {i j} hij _ _ => by simp only; omega
  · unfold Sc.sb
    rw [List.pairwise_map]
    exact List.pairwise_lt_range.imp fun {i j} hij _ _ => by simp only; omega
  · have := (sb_mem _ b hb).1
    simp only at this; omega
theorem end_stays {cut tn j : Nat} (hj : 64 * (j : Int) < (cut : Int) + tn) (h : 64 * (j : Int) + 64 ≤ cut ∨ tn = 0) : Stays (endL cut tn) j := by
  unfold Stays blkB
  rw [end_bts, end_tot]
  apply List.ext_getElem?
  intro i
  have l0 : (Sc.sb ⟨0, 0, (cut : Int)⟩).length = cut := by rw [Sc.sb_length]; simp
  by_cases hi : (i : Int) < min 64 ((cut : Int) + tn - 64 * (j : Int))
  · have hlt : 64 * j + i < cut := by omega
    rw [List.getElem?_take_of_lt (by omega), List.getElem?_drop, List.getElem?_append_left (by omega)]
    unfold Sc.sb
    rw [List.getElem?_map, List.getElem?_map, List.getElem?_range (by simp only [Int.toNat_natCast]; exact hlt), List.getElem?_range (by simp only; omega)]
    simp only [Option.map_some, Option.some.injEq, Prod.mk.injEq, true_and]
    omega
  · rw [List.getElem?_eq_none (by rw [List.length_take, List.length_drop, List.length_append, l0, Sc.sb_length]; simp only; omega), List.getElem?_eq_none (by rw [Sc.sb_length]; simp only; omega)]
theorem end_want {cut on : Nat} {orig tl : List Int} (_ho : orig.length = on) (hc : cut ≤ on) : wantB (endL cut tl.length) orig tl = orig.take cut ++ tl := by
  unfold wantB endL begL Sc.textB
  rw [List.flatMap_append]
  congr 1
  · split
    · simp [Sc.pieceB, Sc.srcOf]
    · have : cut = 0 := by omega
      subst this; simp
  · split
    · simp [Sc.pieceB, Sc.srcOf]
    · have : tl.length = 0 := by omega
      simp [List.length_eq_zero_iff.1 this]
theorem waves_none {W : List (List Stp)} (h1 : ∀ v ∈ W, 1 ≤ v.length) (h2 : ∀ v ∈ W, ∀ s ∈ v, False) : W = [] := by
  cases W with
  | nil => rfl
  | cons v W =>
    have := h1 v (by simp)
    cases v with
    | nil => simp at this
    | cons s v => exact (h2 (s :: v) (by simp) s (by simp)).elim
end Go.Proofs.Yteceephenfmdoaa
