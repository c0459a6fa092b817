/-
  The pieces of a target that rise; how many bytes a target has of the original; plain.
-/
import Derived.Test.YteceephenfmdoaaNSmall
import Derived.Test.YteceephenfmdoaaNLaw
namespace Go.Proofs.Yteceephenfmdoaa
def keepS (st : Int × List S) (s : S) : Int × List S := if s.src = 0 then (if s.at_ < st.1 then st else (s.at_ + s.len, st.2 ++ [s])) else (st.1, st.2 ++ [s])
def keepF (l : List S) : Int × List S := l.foldl keepS (0, [])
theorem keepF_next {l : List S} {k : Nat} {s : S} (h : l[k]? = some s) : keepF (l.take (k + 1)) = keepS (keepF (l.take k)) s := by
  unfold keepF
  rw [Sc.take_snoc l k s h, List.foldl_append]; rfl
/-- What is kept rises. -/
structure Kept (l : List S) (st : Int × List S) : Prop where
  sub : ∀ s ∈ st.2, s ∈ l
  rise : Rises st.2
  lo : 0 ≤ st.1
  last : ∀ x, (0, x) ∈ Sc.bts st.2 → x < st.1
  tot : Sc.tot st.2 ≤ Sc.tot l
  len : st.2.length ≤ l.length
theorem rises_snoc {l : List S} {s : S} {last : Int} (h : Rises l) (hl : ∀ x, (0, x) ∈ Sc.bts l → x < last) (hs : s.src = 0 → last ≤ s.at_) : Rises (l ++ [s]) := by
  unfold Rises
  rw [Sc.bts_append, Sc.bts_one, List.pairwise_append]
  refine ⟨h, ?_, fun a ha b hb h0 h1 => ?_⟩
  · unfold Sc.sb
    rw [List.pairwise_map]
    exact List.pairwise_lt_range.imp fun {i j} hij _ _ => by simp only; omega
  · obtain ⟨b1, b2, b3⟩ := sb_mem s b hb
    obtain ⟨a1, a2⟩ := a
    simp only at h0
    subst h0
    have := hl a2 ha
    have := hs (by rw [← b1]; exact h1)
    simp only; omega
theorem kept_all {l : List S} (hok : Sc.Ok l) : ∀ k, Kept (l.take k) (keepF (l.take k)) := by
  intro k
  induction k with
  | zero => exact ⟨fun s hs => (by simp [keepF] at hs), by simp [keepF, Rises, Sc.bts], by simp [keepF], fun x hx => (by simp [keepF, Sc.bts] at hx), by simp [keepF, Sc.tot], by simp [keepF]⟩
  | succ k ih =>
    cases hs : l[k]? with
    | none =>
      have hl := List.getElem?_eq_none_iff.1 hs
      rw [List.take_of_length_le (by omega)] at ih ⊢
      exact ih
    | some s =>
      have hsk := hok.at_ hs
      unfold Sc.okS at hsk
      have htk := Sc.take_snoc l k s hs
      have htt := Sc.tot_take_succ l k s hs
      have hll : (l.take (k + 1)).length = (l.take k).length + 1 := by rw [htk]; simp
      rw [keepF_next hs]
      unfold keepS
      split
      · split
        · exact ⟨fun t ht => by rw [htk]; exact List.mem_append_left _ (ih.sub t ht), ih.rise, ih.lo, ih.last, by have := ih.tot; omega, by have := ih.len; omega⟩
        · refine ⟨fun t ht => ?_, rises_snoc ih.rise ih.last (fun _ => by omega), by simp only; omega, fun x hx => ?_, ?_, by simp only [List.length_append, List.length_cons, List.length_nil]; have := ih.len; omega⟩
          · rw [htk]
            rcases List.mem_append.1 ht with ht | ht
            · exact List.mem_append_left _ (ih.sub t ht)
            · exact List.mem_append_right _ ht
          · simp only at hx ⊢
            rw [Sc.bts_append, Sc.bts_one] at hx
            rcases List.mem_append.1 hx with hx | hx
            · have := ih.last x hx; omega
            · have := (sb_mem s _ hx).2.2; simp only at this; omega
          · simp only [Sc.tot_append, Sc.tot]; have := ih.tot; omega
      · refine ⟨fun t ht => ?_, rises_snoc ih.rise ih.last (fun h0 => by contradiction), ih.lo, fun x hx => ?_, ?_, by simp only [List.length_append, List.length_cons, List.length_nil]; have := ih.len; omega⟩
        · rw [htk]
          rcases List.mem_append.1 ht with ht | ht
          · exact List.mem_append_left _ (ih.sub t ht)
          · exact List.mem_append_right _ ht
        · simp only at hx ⊢
          rw [Sc.bts_append, Sc.bts_one] at hx
          rcases List.mem_append.1 hx with hx | hx
          · exact ih.last x hx
          · have := (sb_mem s _ hx).1; simp only at this; omega
        · simp only [Sc.tot_append, Sc.tot]; have := ih.tot; omega
theorem mineL_next {l : List S} {k : Nat} {s : S} (h : l[k]? = some s) : mineL (l.take (k + 1)) = mineL (l.take k) + (if s.src = 0 then s.len else 0) := by
  unfold mineL
  rw [Sc.take_snoc l k s h, List.map_append, List.sum_append]; simp
/-- What a made plan's stash is. -/
structure MadeS (l : List S) (size : Int) (p : Pln) : Prop where
  right : Right p.stash
  upTo : ∀ r ∈ p.stash, r.2 ≤ size
  le : tot p.stash ≤ mineL l
  rise : Rises l → tot p.stash = 0
theorem MakeP.stash {l : List S} {size : Int} (hT : TargetP l size) {most : Nat} {p : Pln} (h : MakeP l most p) : MadeS l size p := by
  obtain ⟨o, stash, rfl, hR, hin, ho, hall, hnd, hpw, hr, _⟩ := h
  exact ⟨hR, fun r hr => (right_to hR (fun x hx => hT.need (hin x hx).2) r hr).2, stash_le hT.may.1 hR (fun x hx => (hin x hx).2), fun h => by show tot stash = 0; rw [hr h]; rfl⟩
theorem TargetP.sub {l m : List S} {size : Int} (h : TargetP l size) (hm : ∀ s ∈ m, s ∈ l) (ht : Sc.tot m ≤ Sc.tot l) : TargetP m size :=
  ⟨⟨fun s hs => h.may.1 s (hm s hs), by have := h.may.2; omega⟩, fun s hs => h.src s (hm s hs)⟩
theorem tot_take_le' {l : List R} (h : Right l) (k : Nat) : 0 ≤ tot (l.take k) := (right_tot (right_take h k)).1
end Go.Proofs.Yteceephenfmdoaa
