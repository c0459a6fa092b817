/-
  A region that draws its order, by an invariant over the operations that have come up: each operation is shown once. No program in sight.
-/
import Derived.Test.YtkjfbgjbifdbjaaZeros
import Derived.Deep.RegionWith
namespace Go.Proofs.Ytkjfbgjbifdbjaa
open Go.RowKit
section
variable {P : Program} {ops : Array Oper} {Q : Exit → Act → World → Prop} {md : Region.Mode}
theorem count_set (l : List Bool) (i : Nat) (h : l.getD i true = false) : (l.set i true).count false + 1 = l.count false := by
  induction l generalizing i with
  | nil => simp at h
  | cons b l ih =>
    cases i with
    | zero =>
      simp at h
      subst h
      simp
    | succ i =>
      have := ih i (by simpa using h)
      cases b <;> simp <;> omega
theorem ready_nil_of_full {listed : Array Bool} (h : listed.toList.count false = 0) (_hs : listed.size = ops.size) : Region.ready md ops listed = [] := by
  rcases hr : Region.ready md ops listed with _ | ⟨i, r⟩
  · rfl
  · have hm : i ∈ Region.ready md ops listed := by rw [hr]; simp
    have h0 := (mem_ready.1 hm).1
    have h1 : listed.toList.getD i true = false := by simpa [Array.getD_eq_getD_getElem?, List.getD_eq_getElem?_getD] using h0
    have := count_set listed.toList i h1
    omega
theorem wpAny_inv (Inv : Array Bool → Act → World → Prop)
    (hstep : ∀ listed a w i, listed.size = ops.size → Inv listed a w → i ∈ Region.ready md ops listed → wpOp P ops Q i (fun a w => Inv (listed.setIfInBounds i true) a w) a w)
    (hdone : ∀ listed a w, listed.size = ops.size → Inv listed a w → Region.ready md ops listed = [] → Q .normal a w) :
    ∀ fuel listed a w, listed.size = ops.size → listed.toList.count false ≤ fuel → Inv listed a w → wpAny P md ops Q fuel listed a w := by
  intro fuel
  induction fuel with
  | zero =>
    intro listed a w hs hc h
    have hr := ready_nil_of_full (md := md) (ops := ops) (by omega) hs
    exact ⟨hr, hdone _ _ _ hs h hr⟩
  | succ fuel ih =>
    intro listed a w hs hc h
    refine ⟨fun hr => hdone _ _ _ hs h hr, fun i hi => wpOp_mono (fun a' w' h' => ih _ _ _ (by simpa using hs) ?_ h') (hstep _ _ _ _ hs h hi)⟩
    have h0 := (mem_ready.1 hi).1
    have h1 : listed.toList.getD i true = false := by simpa [Array.getD_eq_getD_getElem?, List.getD_eq_getElem?_getD] using h0
    have := count_set listed.toList i h1
    rw [Array.toList_setIfInBounds]
    omega
/-- Does operation i wait for operation j? -/
def waits (md : Region.Mode) (ops : Array Oper) (i j : Nat) : Bool := ((ops[i]?).map fun o => o.after.any fun e => Region.binds md e && e.on == j).getD false
theorem ready_dep {listed : Array Bool} {i : Nat} (h : i ∈ Region.ready md ops listed) (j : Nat) (hw : waits md ops i j = true) : listed.getD j false = true := by
  obtain ⟨_, o, ho, hall⟩ := mem_ready.1 h
  unfold waits at hw
  rw [ho] at hw
  simp only [Option.map_some, Option.getD_some] at hw
  obtain ⟨e, he, hb⟩ := Array.any_eq_true'.1 hw
  simp only [Bool.and_eq_true, beq_iff_eq] at hb
  rw [← hb.2]
  exact hall e he hb.1
theorem ready_lt {listed : Array Bool} {i : Nat} (h : i ∈ Region.ready md ops listed) : i < ops.size := by
  obtain ⟨_, o, ho, _⟩ := mem_ready.1 h
  exact (Array.getElem?_eq_some_iff.1 ho).1
theorem ready_not {listed : Array Bool} {i : Nat} (hs : listed.size = ops.size) (h : i ∈ Region.ready md ops listed) : listed.getD i false = false := by
  have h0 := (mem_ready.1 h).1
  have hl := ready_lt h
  rw [← hs] at hl
  simpa [Array.getD_eq_getD_getElem?, hl] using h0
/-- What has come up. -/
def Up (listed : Array Bool) (j : Nat) : Prop := listed.getD j false = true
theorem up_set {listed : Array Bool} {i j : Nat} (hi : i < listed.size) : Up (listed.setIfInBounds i true) j ↔ j = i ∨ Up listed j := by
  unfold Up
  by_cases h : j = i
  · subst h
    simp [Array.getD_eq_getD_getElem?, hi]
  · simp [Array.getD_eq_getD_getElem?, Ne.symm h, h]
/-- All have come up where none is ready, if each waits for ones with lesser numbers. -/
theorem up_all {listed : Array Bool} (hs : listed.size = ops.size) (hr : Region.ready md ops listed = []) (hlt : ops.toList.length = ops.size) (hb : (List.range ops.size).all (fun i => ((ops[i]?).map fun o => o.after.all fun e => decide (e.on < i)).getD false) = true) : ∀ j, j < ops.size → Up listed j := by
  intro j
  induction j using Nat.strongRecOn with
  | _ j ih =>
    intro hj
    rw [List.all_eq_true] at hb
    have hbj := hb j (List.mem_range.2 hj)
    have hoj : ops[j]? = some ops[j] := Array.getElem?_eq_getElem hj
    rw [hoj] at hbj
    simp only [Option.map_some, Option.getD_some] at hbj
    by_cases h : Up listed j
    · exact h
    · exfalso
      have hm : j ∈ Region.ready md ops listed := by
        refine mem_ready.2 ⟨?_, _, hoj, fun e he _ => ?_⟩
        · unfold Up at h
          have hl : j < listed.size := by omega
          simpa [Array.getD_eq_getD_getElem?, hl] using h
        · have := Array.all_eq_true'.1 hbj e he
          have hlt : e.on < j := by simpa using this
          exact ih e.on hlt (by omega)
      rw [hr] at hm
      cases hm
end
/-- A slot's value set. -/
def put_ (T : Nat → Value) (i : Nat) (v : Value) : Nat → Value := fun j => if j = i then v else T j
/-- Numbers that a literal holds. -/
def NumS (w : World) (v : Value) (ns : List Int) : Prop := ∃ g, v = .slice (some ⟨g, 0, none⟩) ns.length ns.length ∧ w.heap[g]? = some (.cells (ns.map (Value.int .i64)).toArray 3 (0, 0))
theorem NumS.grown {w w' : World} {v : Value} {ns : List Int} {o : Option Nat} (h : NumS w v ns) (hg : w.grownBy w' o) (ho : ∀ b, o = some b → ∃ cs m, w.heap[b]? = some (.cells cs 5 m)) : NumS w' v ns := by
  obtain ⟨g, rfl, hh⟩ := h
  refine ⟨g, rfl, ?_⟩
  have hlt := (Array.getElem?_eq_some_iff.1 hh).1
  rw [hg.block g hlt (fun e => ?_)]
  · exact hh
  · obtain ⟨cs, m, hc⟩ := ho g e.symm
    rw [hc] at hh
    injection hh with hh
    injection hh with _ h2 _
    cases h2
theorem NumS.rd {w : World} {v : Value} {ns : List Int} (h : NumS w v ns) : ∃ g, v = .slice (some ⟨g, 0, none⟩) ns.length ns.length ∧ RdI w w.heap.size (some ⟨g, 0, none⟩) ns ∧ w.heap[g]? = some (.cells (ns.map (Value.int .i64)).toArray 3 (0, 0)) := by
  obtain ⟨g, rfl, hh⟩ := h
  refine ⟨g, rfl, fun k x hx => ⟨g, 0, rfl, (Array.getElem?_eq_some_iff.1 hh).1, ?_⟩, hh⟩
  rw [Nat.zero_add, cell_of_row _ _ _ _ _ _ hh]
  simp [hx]
def RowS (w : World) (base : Nat) (v : Value) (n : Nat) (l : List Int) : Prop := ∃ g c, v = .slice (some ⟨g, 0, none⟩) n c ∧ OwnB w base (some ⟨g, 0, none⟩) n c l
theorem OwnB.blk {w : World} {base g n c : Nat} {l : List Int} (h : OwnB w base (some ⟨g, 0, .none⟩) n c l) : ∃ cs m, w.heap[g]? = some (.cells cs 5 m) := by
  rcases h.2.2 with ⟨h', _⟩ | ⟨g', cap', cur, h', _, hg, _⟩
  · simp at h'
  · simp only [Value.slice.injEq, Option.some.injEq, Addr.mk.injEq, and_true, true_and] at h'
    obtain ⟨rfl, rfl⟩ := h'
    exact ⟨_, _, hg⟩
theorem RowS.grown {w w' : World} {base : Nat} {v : Value} {n : Nat} {l : List Int} (h : RowS w base v n l) (hg : w.grownBy w' none) : RowS w' base v n l := by
  obtain ⟨g, c, rfl, ho⟩ := h
  exact ⟨g, c, rfl, ho.1, ho.2.kept hg (.inr (by simp [Value.ownBlock]))⟩
theorem grown_alloc (w : World) (o : Obj) : w.grownBy (w.alloc o) none := by
  have h := (Below.refl w.heap.size w).alloc (Nat.le_refl _) o
  exact ⟨h.os, h.tape, h.output, h.size, fun k hk _ => h.block k hk⟩
/-- A region that reads, makes one block (operation n) and stores what it read into it (operation n+1). -/
structure RW (wq : World) (Z : Obj) (V : Nat → Value) (n : Nat) (Fin : World → Prop) (D : Nat → Prop) (T : Nat → Value) (w : World) : Prop where
  val : ∀ i, i < n + 1 → D i → T i = V i
  cl : D (n+1) → ∀ j, j < n + 1 → D j
  w0 : ¬ D n → w = wq
  w1 : D n → ¬ D (n+1) → w = wq.alloc Z
  w2 : D (n+1) → Fin w
section
variable {wq w : World} {Z : Obj} {V : Nat → Value} {n : Nat} {Fin : World → Prop} {L : Array Bool} {T : Nat → Value}
theorem RW.last (h : RW wq Z V n Fin (Up L) T w) (i : Nat) (hi : i < n + 1) (hn : ¬ Up L i) : ¬ Up L (n+1) := fun x => hn (h.cl x i hi)
theorem RW.world (h : RW wq Z V n Fin (Up L) T w) (i : Nat) (hi : i < n + 1) (hn : ¬ Up L i) : w = wq ∨ w = wq.alloc Z := by
  by_cases hd : Up L n
  · exact .inr (h.w1 hd (h.last i hi hn))
  · exact .inl (h.w0 hd)
theorem RW.same (h : RW wq Z V n Fin (Up L) T w) (i : Nat) (v : Value) (hiL : i < L.size) (hi : i < n) (hn : ¬ Up L i) (hv : v = V i) : RW wq Z V n Fin (Up (L.setIfInBounds i true)) (put_ T i v) w := by
  have hl := h.last i (by omega) hn
  have e : ∀ j, j ≠ i → (Up (L.setIfInBounds i true) j ↔ Up L j) := fun j hj => ⟨fun x => ((up_set hiL).1 x).resolve_left hj, fun x => (up_set hiL).2 (.inr x)⟩
  refine ⟨fun j hj hu => ?_, fun x => absurd ((e _ (by omega)).1 x) hl, fun x => h.w0 (fun y => x ((e _ (by omega)).2 y)), fun x y => h.w1 ((e _ (by omega)).1 x) hl, fun x => absurd ((e _ (by omega)).1 x) hl⟩
  by_cases hji : j = i
  · subst hji; simpa [put_] using hv
  · simp only [put_, if_neg hji]
    exact h.val j hj ((e j hji).1 hu)
theorem RW.made (h : RW wq Z V n Fin (Up L) T w) (v : Value) (hiL : n < L.size) (hn : ¬ Up L n) (hv : v = V n) : RW wq Z V n Fin (Up (L.setIfInBounds n true)) (put_ T n v) (w.alloc Z) := by
  have hl := h.last n (by omega) hn
  have hw := h.w0 hn
  have e : ∀ j, j ≠ n → (Up (L.setIfInBounds n true) j ↔ Up L j) := fun j hj => ⟨fun x => ((up_set hiL).1 x).resolve_left hj, fun x => (up_set hiL).2 (.inr x)⟩
  refine ⟨fun j hj hu => ?_, fun x => absurd ((e _ (by omega)).1 x) hl, fun x => absurd ((up_set hiL).2 (.inl rfl)) x, fun _ _ => by rw [hw], fun x => absurd ((e _ (by omega)).1 x) hl⟩
  by_cases hji : j = n
  · subst hji; simpa [put_] using hv
  · simp only [put_, if_neg hji]
    exact h.val j hj ((e j hji).1 hu)
theorem RW.fin (h : RW wq Z V n Fin (Up L) T w) (w' : World) (hiL : n + 1 < L.size) (hall : ∀ j, j < n + 1 → Up L j) (hf : Fin w') : RW wq Z V n Fin (Up (L.setIfInBounds (n+1) true)) T w' := by
  have e : ∀ j, Up L j → Up (L.setIfInBounds (n+1) true) j := fun j x => (up_set hiL).2 (.inr x)
  exact ⟨fun j hj _ => h.val j hj (hall j hj), fun _ j hj => e j (hall j hj), fun x => absurd (e n (hall n (by omega))) x, fun _ y => absurd ((up_set hiL).2 (.inl rfl)) y, fun _ => hf⟩
end
end Go.Proofs.Ytkjfbgjbifdbjaa
