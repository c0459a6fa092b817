/-
  Plain laws on what a plan must be, for the walks of Check and of the reference's May; what stays in memory meanwhile.
-/
import Derived.Test.YteceephenfmdoaaMFits
import Derived.Test.YteceephenfmdoaaRD
namespace Go.Proofs.Yteceephenfmdoaa
open Go.RowKit
theorem right_all (l : List R) : ∀ a, RightF a l → ∀ r ∈ l, r.2 ≤ lastTo a l := by
  induction l with
  | nil => intro a _ r hr; cases hr
  | cons s l ih =>
    intro a h r hr
    have h2 := tot_le l s.2 h.2.2
    rcases List.mem_cons.1 hr with rfl | hr
    · show r.2 ≤ lastTo r.2 l; omega
    · exact ih s.2 h.2.2 r hr
theorem right_last {l : List R} (h : Right l) {r : R} (hl : l[l.length - 1]? = some r) (size : Int) : (∀ s ∈ l, s.2 ≤ size) ↔ r.2 ≤ size := by
  have hm : r ∈ l := List.mem_of_getElem? hl
  refine ⟨fun hh => hh r hm, fun hh s hs => ?_⟩
  have h1 := right_all l (-1) h s hs
  have h2 : lastTo (-1) l = r.2 := by
    have hlt : l.length - 1 < l.length := (List.getElem?_eq_some_iff.1 hl).1
    have e : l = l.take (l.length - 1) ++ [r] := by
      have := Sc.take_snoc l (l.length - 1) r hl
      rw [show l.length - 1 + 1 = l.length by omega, List.take_length] at this
      exact this
    rw [e]
    exact lastTo_snoc _ _ _
  omega
theorem right_tot {l : List R} (h : Right l) : 0 ≤ tot l ∧ tot l ≤ lastTo (-1) l + 1 := by have := tot_le l (-1) h; omega
theorem right_tot_le {l : List R} (h : Right l) (size : Int) (hs : 0 ≤ size) (hall : ∀ s ∈ l, s.2 ≤ size) : tot l ≤ size := by
  -- the ranges begin at 0 or later
  have key : ∀ (l : List R) (a b : Int), RightF a l → (∀ s ∈ l, s.2 ≤ b) → a + 1 ≤ b → tot l ≤ b - (a + 1) := by
    intro l
    induction l with
    | nil => intro a b _ _ hab; simp [tot]; omega
    | cons r l ih =>
      intro a b h hb hab
      have h1 := h.1; have h2 := h.2.1
      have h3 := hb r (by simp)
      have h4 : tot (r :: l) = r.2 - r.1 + tot l := rfl
      rw [h4]
      by_cases hl : l = []
      · subst hl; simp [tot]; omega
      · have h5 : r.2 + 1 ≤ b := by
          cases l with
          | nil => exact absurd rfl hl
          | cons s l' =>
            have := h.2.2.1
            have h6 := h.2.2.2.1
            have := hb s (by simp)
            omega
        have := ih r.2 b h.2.2 (fun s hs => hb s (by simp [hs])) h5
        omega
  have := key l (-1) size h hall (by omega)
  omega
/-- What the blocks of a step were told beside. -/
theorem upd_eq (u : Int → Bool) (k : Int) : upd u k true k = true := upd_same u k true
theorem wrote_snoc (u : Int → Bool) (l : List Stp) (s : Stp) : wrote u (l ++ [s]) = upd (wrote u l) s.1 true := by unfold wrote; rw [List.foldl_append]; rfl
theorem fresh_append (l m : List Stp) : ∀ u, FreshP u (l ++ m) ↔ FreshP u l ∧ FreshP (wrote u l) m := by
  induction l with
  | nil => intro u; simp [FreshP, wrote]
  | cons s l ih => intro u; simp only [List.cons_append, FreshP, ih, wrote, List.foldl_cons, and_assoc]
theorem waves_append (n size tail st : Int) (l m : List (List Stp)) : ∀ u, WavesP n size tail st u (l ++ m) ↔ WavesP n size tail st u l ∧ WavesP n size tail st (l.foldl wrote u) m := by
  induction l with
  | nil => intro u; simp [WavesP]
  | cons s l ih => intro u; simp only [List.cons_append, WavesP, ih, List.foldl_cons, and_assoc]
/-- The waves from the k-th on decide. -/
theorem waves_next {n size tail st : Int} {W : List (List Stp)} {k : Nat} {v : List Stp} {u : Int → Bool} {P : Prop} (hv : W[k]? = some v) (h : P ↔ WavesP n size tail st u (W.drop k)) (hw : WaveP n size tail st u v) : P ↔ WavesP n size tail st (wrote u v) (W.drop (k + 1)) := by
  rw [h]
  have hk := (List.getElem?_eq_some_iff.1 hv)
  rw [List.drop_eq_getElem_cons hk.1, hk.2]
  exact ⟨fun h => h.2, fun h => ⟨hw, h⟩⟩
theorem waves_stop {n size tail st : Int} {W : List (List Stp)} {k : Nat} {v : List Stp} {u : Int → Bool} {P : Prop} (hv : W[k]? = some v) (h : P ↔ WavesP n size tail st u (W.drop k)) (hw : ¬ WaveP n size tail st u v) : ¬ P := by
  rw [h]
  have hk := (List.getElem?_eq_some_iff.1 hv)
  rw [List.drop_eq_getElem_cons hk.1, hk.2]
  exact fun h => hw h.1
theorem waves_end {n size tail st : Int} {W : List (List Stp)} {k : Nat} {u : Int → Bool} {P : Prop} (hk : W.length ≤ k) (h : P ↔ WavesP n size tail st u (W.drop k)) : P := by
  rw [h, List.drop_eq_nil_of_le hk]
  exact trivial
theorem fresh_next {v : List Stp} {j : Nat} {s : Stp} {u u' : Int → Bool} (hs : v[j]? = some s) (hu : u' = wrote u (v.take j)) (h : FreshP u v ↔ FreshP u' (v.drop j)) (hf : u' s.1 = false) : upd u' s.1 true = wrote u (v.take (j + 1)) ∧ (FreshP u v ↔ FreshP (upd u' s.1 true) (v.drop (j + 1))) := by
  have hk := (List.getElem?_eq_some_iff.1 hs)
  refine ⟨by rw [Sc.take_snoc v j s hs, wrote_snoc, hu], ?_⟩
  rw [h, List.drop_eq_getElem_cons hk.1, hk.2]
  exact ⟨fun h => h.2, fun h => ⟨hf, h⟩⟩
theorem fresh_stop {v : List Stp} {j : Nat} {s : Stp} {u u' : Int → Bool} (hs : v[j]? = some s) (h : FreshP u v ↔ FreshP u' (v.drop j)) (hf : u' s.1 = true) : ¬ FreshP u v := by
  have hk := (List.getElem?_eq_some_iff.1 hs)
  rw [h, List.drop_eq_getElem_cons hk.1, hk.2]
  intro h2
  have := h2.1
  rw [hf] at this
  cases this
theorem fresh_end {v : List Stp} {j : Nat} {u u' : Int → Bool} (hj : v.length ≤ j) (h : FreshP u v ↔ FreshP u' (v.drop j)) : FreshP u v := by
  rw [h, List.drop_eq_nil_of_le hj]
  exact trivial
open Classical in
noncomputable def checkV (p : Pln) (size tail : Int) : Int := if size < 0 ∨ tail < 0 then 1 else if PlanP p size tail then 0 else 4
theorem checkV_arg {p : Pln} {size tail : Int} (h : size < 0 ∨ tail < 0) : checkV p size tail = 1 := if_pos h
theorem checkV_ok {p : Pln} {size tail : Int} (h : ¬ (size < 0 ∨ tail < 0)) (hp : PlanP p size tail) : checkV p size tail = 0 := by unfold checkV; rw [if_neg h, if_pos hp]
theorem checkV_bad {p : Pln} {size tail : Int} (h : ¬ (size < 0 ∨ tail < 0)) (hp : ¬ PlanP p size tail) : checkV p size tail = 4 := by unfold checkV; rw [if_neg h, if_neg hp]
/-- What Check has in memory beside the plan: its box, the ends, the map. -/
structure Ck (w0 w : World) (p : PlV) (size tail st : Int) (ge mb N : Nat) (u : Int → Bool) : Prop where
  low : Below w0.heap.size w0 w
  box : w.heap[w0.heap.size]? = some (.cells p.cells 32 (0, 0))
  ends : w.heap[ge]? = some (.cells #[.int .i64 size, .int .i64 tail, .int .i64 st] 93 (0, 0))
  map : Wr w mb N u
  mbl : w0.heap.size < mb
theorem Ck.up {w0 w w' : World} {p : PlV} {size tail st : Int} {ge mb N : Nat} {u : Int → Bool} (h : Ck w0 w p size tail st ge mb N u) (hb : Below w.heap.size w w') : Ck w0 w' p size tail st ge mb N u :=
  ⟨h.low.trans (hb.mono h.low.size), (hb.block _ (Array.getElem?_eq_some_iff.1 h.box).1).trans h.box, (hb.block _ (Array.getElem?_eq_some_iff.1 h.ends).1).trans h.ends, h.map.up hb, h.mbl⟩
theorem Ck.ne {w0 w : World} {p : PlV} {size tail st : Int} {ge mb N : Nat} {u : Int → Bool} (h : Ck w0 w p size tail st ge mb N u) : ge ≠ mb := fun e => by
  obtain ⟨D, ⟨es, c, hb, _⟩, _⟩ := h.map
  have h2 := h.ends
  rw [e, hb] at h2
  cases h2
theorem Ck.put {w0 w w' : World} {p : PlV} {size tail st : Int} {ge mb N N' : Nat} {u u' : Int → Bool} (h : Ck w0 w p size tail st ge mb N u) (hm : Wr w' mb N' u') (hg : w.grownBy w' (some mb)) : Ck w0 w' p size tail st ge mb N' u' :=
  ⟨h.low.grown hg h.low.size (fun k e => by injection e with e; have := h.mbl; omega), (hg.block _ (Array.getElem?_eq_some_iff.1 h.box).1 (fun e => by injection e with e; have := h.mbl; omega)).trans h.box, (hg.block _ (Array.getElem?_eq_some_iff.1 h.ends).1 (fun e => by injection e with e; exact h.ne e)).trans h.ends, hm, h.mbl⟩
theorem Ck.endsAt {w0 w : World} {p : PlV} {size tail st : Int} {ge mb N : Nat} {u : Int → Bool} (h : Ck w0 w p size tail st ge mb N u) : EndsAt w w.heap.size ge size tail st :=
  ⟨(Array.getElem?_eq_some_iff.1 h.ends).1, cell_of_row _ _ 0 _ 93 (0, 0) h.ends, cell_of_row _ _ 1 _ 93 (0, 0) h.ends, cell_of_row _ _ 2 _ 93 (0, 0) h.ends⟩
theorem Ck.cells {w0 w : World} {p : PlV} {size tail st : Int} {ge mb N : Nat} {u : Int → Bool} (h : Ck w0 w p size tail st ge mb N u) : w.cell? ⟨w0.heap.size, 0, none⟩ = some (.int .i64 p.size) ∧ w.cell? ⟨w0.heap.size, 1, none⟩ = some (.slice p.SA p.stash.length p.sc) ∧ w.cell? ⟨w0.heap.size, 2, none⟩ = some (.slice p.WA p.waves.length p.wc) :=
  ⟨cell_of_row _ _ 0 _ 32 (0, 0) h.box, cell_of_row _ _ 1 _ 32 (0, 0) h.box, cell_of_row _ _ 2 _ 32 (0, 0) h.box⟩
end Go.Proofs.Yteceephenfmdoaa
