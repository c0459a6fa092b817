/-
  Plain facts on lists of parts of two files: they may be, all that is to be rescued lies in the original, and then nothing is lost. No program in sight.
-/
import Derived.Test.YtdpjblepcpjomaaLLists
import Derived.Test.YtdpjblepcpjomaaPLaw
import Derived.Test.YtdpjblepcpjomaaWMove
namespace Go.Proofs.Ytdpjblepcpjomaa.Rb
open Go.RowKit
section
variable {N M : Nat}
theorem few_ok (hN : N ≤ 2000) (hM : M ≤ 2000) {l : List S} (h : FewP N M l) : Sc.Ok l := by
  intro s hs
  obtain ⟨h1, h2, h3, h4⟩ := h s hs
  unfold Sc.okS
  split at h4 <;> omega
theorem few_len (hN : N ≤ 2000) (hM : M ≤ 2000) {l : List S} (h : FewP N M l) : Sc.tot l ≤ 2000 * l.length := by
  induction l with
  | nil => simp [Sc.tot]
  | cons s l ih =>
    have h1 := ih (fun t ht => h t (List.mem_cons_of_mem _ ht))
    obtain ⟨_, h2, h3, h4⟩ := h s (by simp)
    simp only [Sc.tot, List.length_cons]
    split at h4 <;> omega
theorem few_may (hN : N ≤ 2000) (hM : M ≤ 2000) {l : List S} (h : FewP N M l) (hl : l.length ≤ 30) : MayX l ∧ Sc.tot l ≤ 60000 := by
  have h1 := few_len hN hM h
  exact ⟨⟨fun s hs => by have := (h s hs).1; omega, few_ok hN hM h, by omega⟩, by omega⟩
theorem few_ins {orig tl : List Int} {l : List S} (h : FewP orig.length tl.length l) : ∀ x ∈ Sc.bts l, Ins orig tl x := by
  rintro ⟨a, y⟩ hx
  obtain ⟨s, hs, rfl, h1, h2⟩ := (mem_bts _ _ _).1 hx
  obtain ⟨g1, g2, g3, g4⟩ := h s hs
  refine ⟨by simp only; omega, ?_⟩
  simp only
  rcases g1 with g1 | g1
  · rw [g1] at g4 ⊢; simp at g4; exact .inl ⟨rfl, by omega⟩
  · rw [g1] at g4 ⊢; simp at g4; exact .inr ⟨rfl, by omega⟩
theorem few_has {orig tl : List Int} {l : List S} (h : FewP orig.length tl.length l) : Sc.Hass [orig, tl] l := by
  intro s hs
  obtain ⟨g1, g2, g3, g4⟩ := h s hs
  unfold Sc.Has Sc.srcOf
  rcases g1 with g1 | g1
  · rw [g1] at g4 ⊢; simp at g4 ⊢; omega
  · rw [g1] at g4 ⊢; simp at g4 ⊢; omega
/-- What is to be rescued of such lists. -/
structure Res (N : Nat) (RS : List R) : Prop where
  right : Right RS
  bds : Bds N RS
  tot_ : tot RS ≤ N + 1
  ir : IR RS
  len_ : RS.length ≤ N + 1
theorem right_len (l : List R) : ∀ a, RightF a l → (l.length : Int) ≤ tot l := by
  induction l with
  | nil => intro a _; simp [tot]
  | cons r l ih =>
    intro a h
    obtain ⟨h0, h1, h2⟩ := h
    have := ih r.2 h2
    simp only [tot, List.length_cons]
    omega
theorem res_ok (hN : N ≤ 2000) (hM : M ≤ 2000) {T : List S} {ls : List (List S)} (h : ∀ l ∈ ls, FewP N M l) : Res N (rescueR T ls) := by
  have hI := rescue_is (T := T) (ls := ls) (fun l hl => few_ok hN hM (h l hl))
  have hb : Bds N (rescueR T ls) := by
    intro r hr
    have h1 := right_mem hI.1 hr
    have h2 : ∀ y, r.1 ≤ y → y < r.2 → 0 ≤ y ∧ y < N := by
      intro y hy hy'
      obtain ⟨h3, _⟩ := (hI.2 y).1 ⟨r, hr, hy, hy'⟩
      obtain ⟨s, hs, e, h4, h5⟩ := (mem_bts _ _ _).1 h3
      obtain ⟨l, hl, hs⟩ := List.mem_flatten.1 hs
      obtain ⟨_, h6, _, h7⟩ := h l hl s hs
      rw [e] at h7; simp at h7
      omega
    have h3 := h2 r.1 (Int.le_refl _) (by omega)
    have h4 := h2 (r.2 - 1) (by omega) (by omega)
    exact ⟨h3.1, by omega, by omega⟩
  have htot : tot (rescueR T ls) ≤ N + 1 := by
    have h1 := (tot_le _ _ hI.1).2
    have h2 : lastTo (-1) (rescueR T ls) ≤ N := by
      rcases List.eq_nil_or_concat (rescueR T ls) with e | ⟨l', s, e⟩
      · rw [e]; simp [lastTo]
      · rw [e, List.concat_eq_append, lastTo_snoc]
        exact (hb s (by rw [e]; simp)).2.2
    omega
  refine ⟨hI.1, hb, htot, fun r hr => ?_, ?_⟩
  · have := hb r hr
    unfold I64; omega
  · have := right_len _ _ hI.1
    omega
theorem move_all (hN : N ≤ 2000) (hM : M ≤ 2000) {T l : List S} {ls : List (List S)} (h : ∀ l ∈ ls, FewP N M l) (hl : l ∈ ls) (a : Int) : ∀ x ∈ Sc.bts l, mv (Sc.bts T) (rescueR T ls) a x ≠ none := by
  rintro ⟨b, y⟩ hx
  cases hp : pos (Sc.bts T) (b, y) with
  | some p => rw [mv_some hp]; simp
  | none =>
    rw [mv_none hp]
    obtain ⟨s, hs, e, h1, h2⟩ := (mem_bts _ _ _).1 hx
    have g := (h l hl s hs).1
    by_cases hb : b = 1
    · rw [if_pos hb]; simp
    · have hb0 : b = 0 := by omega
      subst hb0
      have hI := rescue_is (T := T) (ls := ls) (fun l hl => few_ok hN hM (h l hl))
      obtain ⟨d, hd⟩ := below_some ((hI.2 y).2 ⟨(mem_bts _ _ _).2 ⟨s, List.mem_flatten.2 ⟨l, hl, hs⟩, e, h1, h2⟩, pos_none.1 hp⟩)
      rw [if_neg hb, hd]; simp
theorem few_good (hN : N ≤ 2000) (hM : M ≤ 2000) {T l : List S} {ls : List (List S)} (hT : FewP N M T) (hTl : T.length ≤ 30) (h : ∀ l ∈ ls, FewP N M l) (hl : l ∈ ls) (hll : l.length ≤ 30) : Good T (rescueR T ls) M l := by
  have hR := res_ok (N := N) (M := M) (T := T) hN hM h
  have := hR.tot_
  exact ⟨(few_may hN hM hT hTl).1, (few_may hN hM (h l hl) hll).1, hR.right, by omega, by omega, by omega⟩
theorem moveL_join {TB : List B} {RS : List R} {a : Int} {bs : List B} (h : Sc.Ok ((bs.filterMap (mv TB RS a)).map byteS)) : Sc.joinL (moveL TB RS a bs) = moveL TB RS a bs := Sc.joinL_joinL h
theorem again_eq {n : Int} {m : List S} (hm : Sc.Ok m) (hj : Sc.joinL m = m) (h : ∀ z ∈ Sc.bts m, (z.1 = 0 ∧ 0 ≤ z.2 ∧ z.2 < n) ∨ z.1 = 1) :
    moveL (Sc.bts (ownS n)) [] 0 (Sc.bts m) = m ∧ ∀ x ∈ Sc.bts m, mv (Sc.bts (ownS n)) [] 0 x ≠ none :=
  ⟨((twice_to h).join hm).symm.trans hj, (twice_to h).all⟩
/-- All that RebaseTwice needs. -/
structure Tw (N M : Nat) (T X : List S) : Prop where
  mayT : MayX T
  mayX : MayX X
  res : Res N (rescueR T [X])
  move : moveE T (rescueR T [X]) M X = 0 ∧ moveR T (rescueR T [X]) M X = moveL (Sc.bts T) (rescueR T [X]) M (Sc.bts X)
  mayM : MayX (moveL (Sc.bts T) (rescueR T [X]) M (Sc.bts X))
  mlen : (moveL (Sc.bts T) (rescueR T [X]) M (Sc.bts X)).length ≤ 60000
  mayO : MayX (ownS (Sc.tot T))
  none_ : rescueL (ownS (Sc.tot T)) [moveL (Sc.bts T) (rescueR T [X]) M (Sc.bts X)] = []
  again : moveE (ownS (Sc.tot T)) [] 0 (moveL (Sc.bts T) (rescueR T [X]) M (Sc.bts X)) = 0 ∧ moveR (ownS (Sc.tot T)) [] 0 (moveL (Sc.bts T) (rescueR T [X]) M (Sc.bts X)) = moveL (Sc.bts T) (rescueR T [X]) M (Sc.bts X)
theorem tw_ok (hN : N ≤ 2000) (hM : M ≤ 2000) {T X : List S} (hT : FewP N M T) (hTl : T.length ≤ 30) (hX : FewP N M X) (hXl : X.length ≤ 30) : Tw N M T X := by
  have hls : ∀ l ∈ [X], FewP N M l := fun l hl => by simp at hl; subst hl; exact hX
  have mT := few_may hN hM hT hTl
  have mX := few_may hN hM hX hXl
  have hG := few_good hN hM hT hTl hls (l := X) (by simp) hXl
  have hR := res_ok (N := N) (M := M) (T := T) hN hM hls
  have hA := move_all hN hM (T := T) hls (l := X) (by simp) (M : Int)
  have a1 : (M : Int) + tot (rescueR T [X]) ≤ 1099511627776 := by have := hR.tot_; omega
  have hbd := bd_bts mX.1.2.1
  have hXb := Sc.bts_length mX.1.2.1
  have hTb := Sc.bts_length mT.1.2.1
  have hm := moved_may mT.1.2 hR.right (by omega) a1 hbd (by have := mX.2; omega)
  have hbts := moved_bts mT.1.2 hR.right (by omega) a1 hbd
  have hz : ∀ z ∈ Sc.bts (moveL (Sc.bts T) (rescueR T [X]) M (Sc.bts X)), (z.1 = 0 ∧ 0 ≤ z.2 ∧ z.2 < Sc.tot T) ∨ z.1 = 1 := by
    intro z hz
    rw [hbts] at hz
    obtain ⟨x, _, hx⟩ := List.mem_filterMap.1 hz
    have := mv_src hx
    omega
  have hO := ownS_may (n := Sc.tot T) (by have := mT.2; omega)
  have hag := again_eq hm.2.1 (moveL_join (moved_ok0 mT.1.2 hR.right (by omega) a1 hbd)) hz
  have hgd : Good (ownS (Sc.tot T)) [] 0 (moveL (Sc.bts T) (rescueR T [X]) M (Sc.bts X)) := ⟨hO, hm, trivial, by omega, by omega, by simp [tot]⟩
  have hdone := move_done hgd hag.2
  refine ⟨mT.1, mX.1, hR, move_done hG hA, hm, ?_, hO, ?_, hdone.1, hdone.2.trans hag.1⟩
  · have h1 := Sc.len_le_tot _ hm.2.1
    have h2 := Sc.bts_length hm.2.1
    have h3 := List.length_filterMap_le (mv (Sc.bts T) (rescueR T [X]) M) (Sc.bts X)
    rw [← hbts] at h3
    have := mX.2
    omega
  · rw [rescueL_yes hO (fun l hl => by simp at hl; subst hl; exact hm)]
    exact twice_rescue hm.2.1 hz
end
/-- A struct of two values that lies in memory. -/
structure FAt (w : World) (g : Nat) (v0 v1 : Value) : Prop where
  lt : g < w.heap.size
  c0 : w.cell? ⟨g, 0, none⟩ = some v0
  c1 : w.cell? ⟨g, 1, none⟩ = some v1
theorem FAt.up {w w' : World} {g : Nat} {v0 v1 : Value} (h : FAt w g v0 v1) (hb : Below w.heap.size w w') : FAt w' g v0 v1 :=
  ⟨by have := h.lt; have := hb.size; omega, (hb.cell (p := ⟨g, 0, none⟩) h.lt).trans h.c0, (hb.cell (p := ⟨g, 1, none⟩) h.lt).trans h.c1⟩
theorem FAt.new (w : World) (v0 v1 : Value) (t : TypeId) : FAt (w.alloc (.cells #[v0, v1] t)) w.heap.size v0 v1 :=
  ⟨by simp, by rw [Sc.cell_new]; rfl, by rw [Sc.cell_new]; rfl⟩
end Go.Proofs.Ytdpjblepcpjomaa.Rb
