/-
  MB: texts of one kind, one behind the other.
-/
import Derived.Test.YtblibmalommdkaaGreatRB
import Derived.BigQuiet
import Derived.Deep.RegionWith
/-
  A region that draws its order, reads, and calls what makes memory beside all that is there: one walk in the text's order. No program in sight.
-/
namespace Go.Proofs.YtblibmalommdkaaGreat
open Go.RowKit
/-- The worlds that came of one: nothing that was there has changed. -/
def Qs (w : World) : Type := { W : World // Below w.heap.size w W }
instance (w : World) : Nonempty (Qs w) := ⟨⟨w, Below.refl _ _⟩⟩
theorem Qs.cell {w : World} (q : Qs w) {a : Addr} {v : Value} (h : w.cell? a = some v) : q.1.cell? a = some v := (q.2.cell (World.block_lt_of_cell? w a h)).trans h
/-- A callee that leaves all that was there. -/
theorem Qs.calls {P : Program} {f : FuncId} {args : Array Value} {w : World} {v : Value} (q : Qs w) (h : Calls P f args q.1 fun e w' => e = .returned v ∧ Below q.1.heap.size q.1 w') : Calls P f args q.1 fun e w'' => e = .returned v ∧ ∃ q' : Qs w, w'' = q'.1 :=
  h.mono fun _ w'' h => ⟨h.1, ⟨w'', q.2.trans (h.2.mono q.2.size)⟩, rfl⟩
theorem Qs.calls_same {P : Program} {f : FuncId} {args : Array Value} {w : World} {v : Value} (q : Qs w) (h : Calls P f args q.1 fun e w' => e = .returned v ∧ q.1 = w') : Calls P f args q.1 fun e w'' => e = .returned v ∧ ∃ q' : Qs w, w'' = q'.1 :=
  h.mono fun _ _ h => ⟨h.1, q, h.2.symm⟩
theorem wp_region_below {P : Program} {id : Nat} {Q : Exit → Act → World → Prop} {a : Act} {w : World} {l : List Oper} (hm : P.follows .mixedOrders = true) (hB : Region.lexB .any l.toArray = true)
    (h : wpQuiet P l.toArray (fun W => ∃ q : Qs w, W = q.1) (fun a' => ∀ w', (∃ q : Qs w, w' = q.1) → Q .normal a' w') l a) : (Code.region id l.toArray true).wp P Q a w :=
  wp_region_quiet (C := fun W => ∃ q : Qs w, W = q.1) hm hB ⟨⟨w.drew, belowDrewN (Below.refl _ _) 1⟩, rfl⟩ h
end Go.Proofs.YtblibmalommdkaaGreat

/-
  A region that draws its order, by an invariant over the operations that have come up: each operation is shown once; where each yields one value, whatever the order, and what is made is made in one order. No program in sight.
-/
namespace Go.Proofs.YtblibmalommdkaaGreat
open Go.RowKit
section
variable {P : Program} {ops : Array Oper} {Q : Exit → Act → World → Prop} {md : Region.Mode}
theorem count_set (l : List Bool) (i : Nat) (h : l.getD i true = false) : (l.set i true).count false + 1 = l.count false := by
  induction l generalizing i with
  | nil => simp at h
  | cons b l ih =>
    cases i with
    | zero =>
      simp at h
      subst h
      simp
    | succ i =>
      have := ih i (by simpa using h)
      cases b <;> simp <;> omega
theorem ready_nil_of_full {listed : Array Bool} (h : listed.toList.count false = 0) (_hs : listed.size = ops.size) : Region.ready md ops listed = [] := by
  rcases hr : Region.ready md ops listed with _ | ⟨i, r⟩
  · rfl
  · have hm : i ∈ Region.ready md ops listed := by rw [hr]; simp
    have h0 := (mem_ready.1 hm).1
    have h1 : listed.toList.getD i true = false := by simpa [Array.getD_eq_getD_getElem?, List.getD_eq_getElem?_getD] using h0
    have := count_set listed.toList i h1
    omega
theorem wpAny_inv (Inv : Array Bool → Act → World → Prop)
    (hstep : ∀ listed a w i, listed.size = ops.size → Inv listed a w → i ∈ Region.ready md ops listed → wpOp P ops Q i (fun a w => Inv (listed.setIfInBounds i true) a w) a w)
    (hdone : ∀ listed a w, listed.size = ops.size → Inv listed a w → Region.ready md ops listed = [] → Q .normal a w) :
    ∀ fuel listed a w, listed.size = ops.size → listed.toList.count false ≤ fuel → Inv listed a w → wpAny P md ops Q fuel listed a w := by
  intro fuel
  induction fuel with
  | zero =>
    intro listed a w hs hc h
    have hr := ready_nil_of_full (md := md) (ops := ops) (by omega) hs
    exact ⟨hr, hdone _ _ _ hs h hr⟩
  | succ fuel ih =>
    intro listed a w hs hc h
    refine ⟨fun hr => hdone _ _ _ hs h hr, fun i hi => wpOp_mono (fun a' w' h' => ih _ _ _ (by simpa using hs) ?_ h') (hstep _ _ _ _ hs h hi)⟩
    have h0 := (mem_ready.1 hi).1
    have h1 : listed.toList.getD i true = false := by simpa [Array.getD_eq_getD_getElem?, List.getD_eq_getElem?_getD] using h0
    have := count_set listed.toList i h1
    rw [Array.toList_setIfInBounds]
    omega
/-- Does operation i wait for operation j? -/
def waits (md : Region.Mode) (ops : Array Oper) (i j : Nat) : Bool := ((ops[i]?).map fun o => o.after.any fun e => Region.binds md e && e.on == j).getD false
theorem ready_dep {listed : Array Bool} {i : Nat} (h : i ∈ Region.ready md ops listed) (j : Nat) (hw : waits md ops i j = true) : listed.getD j false = true := by
  obtain ⟨_, o, ho, hall⟩ := mem_ready.1 h
  unfold waits at hw
  rw [ho] at hw
  simp only [Option.map_some, Option.getD_some] at hw
  obtain ⟨e, he, hb⟩ := Array.any_eq_true'.1 hw
  simp only [Bool.and_eq_true, beq_iff_eq] at hb
  rw [← hb.2]
  exact hall e he hb.1
theorem ready_lt {listed : Array Bool} {i : Nat} (h : i ∈ Region.ready md ops listed) : i < ops.size := by
  obtain ⟨_, o, ho, _⟩ := mem_ready.1 h
  exact (Array.getElem?_eq_some_iff.1 ho).1
theorem ready_not {listed : Array Bool} {i : Nat} (hs : listed.size = ops.size) (h : i ∈ Region.ready md ops listed) : listed.getD i false = false := by
  have h0 := (mem_ready.1 h).1
  have hl := ready_lt h
  rw [← hs] at hl
  simpa [Array.getD_eq_getD_getElem?, hl] using h0
/-- What has come up. -/
def Up (listed : Array Bool) (j : Nat) : Prop := listed.getD j false = true
theorem up_set {listed : Array Bool} {i j : Nat} (hi : i < listed.size) : Up (listed.setIfInBounds i true) j ↔ j = i ∨ Up listed j := by
  unfold Up
  by_cases h : j = i
  · subst h
    simp [Array.getD_eq_getD_getElem?, hi]
  · simp [Array.getD_eq_getD_getElem?, Ne.symm h, h]
/-- All have come up where none is ready, if each waits for ones with lesser numbers. -/
theorem up_all {listed : Array Bool} (hs : listed.size = ops.size) (hr : Region.ready md ops listed = []) (hlt : ops.toList.length = ops.size) (hb : (List.range ops.size).all (fun i => ((ops[i]?).map fun o => o.after.all fun e => decide (e.on < i)).getD false) = true) : ∀ j, j < ops.size → Up listed j := by
  intro j
  induction j using Nat.strongRecOn with
  | _ j ih =>
    intro hj
    rw [List.all_eq_true] at hb
    have hbj := hb j (List.mem_range.2 hj)
    have hoj : ops[j]? = some ops[j] := Array.getElem?_eq_getElem hj
    rw [hoj] at hbj
    simp only [Option.map_some, Option.getD_some] at hbj
    by_cases h : Up listed j
    · exact h
    · exfalso
      have hm : j ∈ Region.ready md ops listed := by
        refine mem_ready.2 ⟨?_, _, hoj, fun e he _ => ?_⟩
        · unfold Up at h
          have hl : j < listed.size := by omega
          simpa [Array.getD_eq_getD_getElem?, hl] using h
        · have := Array.all_eq_true'.1 hbj e he
          have hlt : e.on < j := by simpa using this
          exact ih e.on hlt (by omega)
      rw [hr] at hm
      cases hm
end
/-- A slot's value set. -/
def put_ (T : Nat → Value) (i : Nat) (v : Value) : Nat → Value := fun j => if j = i then v else T j
section
variable {P : Program} {ops : Array Oper} {Q : Exit → Act → World → Prop} {md : Region.Mode}
/-- Whatever has come up, what it waits for has come up. -/
def Closed (md : Region.Mode) (ops : Array Oper) (listed : Array Bool) : Prop := ∀ i j, Up listed i → waits md ops i j = true → Up listed j
theorem closed_none (n : Nat) : Closed md ops (Array.replicate n false) := fun i j h _ => by
  exfalso
  unfold Up at h
  by_cases hlt : i < n
  · simp [Array.getD_eq_getD_getElem?, hlt] at h
  · simp [Array.getD_eq_getD_getElem?, hlt] at h
theorem wpAny_invC (Inv : Array Bool → Act → World → Prop)
    (hstep : ∀ listed a w i, listed.size = ops.size → Closed md ops listed → Inv listed a w → i ∈ Region.ready md ops listed → wpOp P ops Q i (fun a w => Inv (listed.setIfInBounds i true) a w) a w)
    (hdone : ∀ listed a w, listed.size = ops.size → Inv listed a w → Region.ready md ops listed = [] → Q .normal a w) (fuel : Nat) (n : Nat) (a : Act) (w : World) (hs : n = ops.size) (hc : (Array.replicate n false).toList.count false ≤ fuel) (h : Inv (Array.replicate n false) a w) :
    wpAny P md ops Q fuel (Array.replicate n false) a w := by
  refine wpAny_inv (fun L a w => Closed md ops L ∧ Inv L a w) ?_ (fun L a w hs h hr => hdone L a w hs h.2 hr) fuel _ a w (by simpa using hs) hc ⟨closed_none n, h⟩
  intro L a w i hs h hr
  refine wpOp_mono (fun a' w' h' => ⟨?_, h'⟩) (hstep L a w i hs h.1 h.2 hr)
  intro j k hj hw
  have hi : i < L.size := by have := ready_lt hr; omega
  rcases (up_set hi).1 hj with rfl | hj
  · exact (up_set hi).2 (.inr (ready_dep hr k hw))
  · exact (up_set hi).2 (.inr (h.1 j k hj hw))
end
/-- The world behind so many of the operations that change it (the last one first). -/
noncomputable def wAt (D : Nat → Prop) (w0 : World) : List (Nat × World) → World
  | [] => w0
  | x :: r => @ite _ (D x.1) (Classical.propDecidable _) x.2 (wAt D w0 r)
theorem wAt_yes {D : Nat → Prop} {w0 : World} {x : Nat × World} {r : List (Nat × World)} (h : D x.1) : wAt D w0 (x :: r) = x.2 := by
  unfold wAt
  exact if_pos h
theorem wAt_no {D : Nat → Prop} {w0 : World} {x : Nat × World} {r : List (Nat × World)} (h : ¬ D x.1) : wAt D w0 (x :: r) = wAt D w0 r := by
  rw [wAt]
  exact if_neg h
theorem wAt_congr {D D' : Nat → Prop} {w0 : World} : ∀ {ph : List (Nat × World)}, (∀ x ∈ ph, D x.1 ↔ D' x.1) → wAt D w0 ph = wAt D' w0 ph := by
  intro ph
  induction ph with
  | nil => intro _; rfl
  | cons x r ih =>
    intro h
    have h1 := ih (fun y hy => h y (by simp [hy]))
    by_cases hd : D x.1
    · rw [wAt_yes hd, wAt_yes ((h x (by simp)).1 hd)]
    · rw [wAt_no hd, wAt_no (fun e => hd ((h x (by simp)).2 e)), h1]
/-- Each operation yields its one value; the world is that behind the last change. -/
structure DW (N : Nat) (V : Nat → Value) (w0 : World) (ph : List (Nat × World)) (D : Nat → Prop) (T : Nat → Value) (w : World) : Prop where
  val : ∀ i, i < N → D i → T i = V i
  wd : w = wAt D w0 ph
section
variable {N : Nat} {V : Nat → Value} {w0 w : World} {ph : List (Nat × World)} {L : Array Bool} {T : Nat → Value}
theorem DW.fact {D : Nat → Prop} (h : DW N V w0 ph D T w) (Q : World → Prop) (h0 : Q w0) (hall : ∀ x ∈ ph, D x.1 → Q x.2) : Q w := by
  rw [h.wd]
  clear h
  induction ph with
  | nil => exact h0
  | cons x r ih =>
    by_cases hd : D x.1
    · rw [wAt_yes hd]; exact hall x (by simp) hd
    · rw [wAt_no hd]; exact ih (fun y hy => hall y (by simp [hy]))
theorem up_ne {i j : Nat} (hi : i < L.size) (hj : j ≠ i) : Up (L.setIfInBounds i true) j ↔ Up L j := ⟨fun x => ((up_set hi).1 x).resolve_left hj, fun x => (up_set hi).2 (.inr x)⟩
/-- An operation that leaves the world. -/
theorem DW.same (h : DW N V w0 ph (Up L) T w) (i : Nat) (v : Value) (hi : i < L.size) (hp : ∀ x ∈ ph, x.1 ≠ i) (hv : v = V i) : DW N V w0 ph (Up (L.setIfInBounds i true)) (put_ T i v) w := by
  refine ⟨fun j hj hu => ?_, by rw [h.wd]; exact wAt_congr fun x hx => (up_ne hi (hp x hx)).symm⟩
  by_cases hji : j = i
  · subst hji; simpa [put_] using hv
  · simp only [put_, if_neg hji]
    exact h.val j hj ((up_ne hi hji).1 hu)
/-- An operation that changes the world: none that changes it later has come up. -/
theorem DW.step {later earlier : List (Nat × World)} {i : Nat} {w' : World} (h : DW N V w0 (later ++ (i, w') :: earlier) (Up L) T w) (v : Value) (hi : i < L.size) (hl : ∀ x ∈ later, ¬ Up L x.1 ∧ x.1 ≠ i) (hv : i < N → v = V i) : DW N V w0 (later ++ (i, w') :: earlier) (Up (L.setIfInBounds i true)) (put_ T i v) w' := by
  refine ⟨fun j hj hu => ?_, ?_⟩
  · by_cases hji : j = i
    · subst hji; simpa [put_] using hv hj
    · simp only [put_, if_neg hji]
      exact h.val j hj ((up_ne hi hji).1 hu)
  · clear h
    induction later with
    | nil => exact (wAt_yes (x := (i, w')) (show Up _ i from (up_set hi).2 (.inl rfl))).symm
    | cons x r ih =>
      have hx := hl x (by simp)
      rw [List.cons_append, wAt_no (fun e => hx.1 ((up_ne hi hx.2).1 e))]
      exact ih (fun y hy => hl y (by simp [hy]))
/-- The world ahead of such an operation. -/
theorem DW.ahead {later : List (Nat × World)} {i : Nat} {wi w1 : World} {j : Nat} {r : List (Nat × World)} (h : DW N V w0 (later ++ (i, wi) :: (j, w1) :: r) (Up L) T w) (hl : ∀ x ∈ later, ¬ Up L x.1) (hn : ¬ Up L i) (hj : Up L j) : w = w1 := by
  rw [h.wd]
  clear h
  induction later with
  | nil => rw [List.nil_append, wAt_no hn, wAt_yes hj]
  | cons x s ih => rw [List.cons_append, wAt_no (hl x (by simp))]; exact ih (fun y hy => hl y (by simp [hy]))
theorem DW.first {later : List (Nat × World)} {i : Nat} {wi : World} (h : DW N V w0 (later ++ [(i, wi)]) (Up L) T w) (hl : ∀ x ∈ later, ¬ Up L x.1) (hn : ¬ Up L i) : w = w0 := by
  rw [h.wd]
  clear h
  induction later with
  | nil => rw [List.nil_append, wAt_no hn]; rfl
  | cons x s ih => rw [List.cons_append, wAt_no (hl x (by simp))]; exact ih (fun y hy => hl y (by simp [hy]))
end
end Go.Proofs.YtblibmalommdkaaGreat
