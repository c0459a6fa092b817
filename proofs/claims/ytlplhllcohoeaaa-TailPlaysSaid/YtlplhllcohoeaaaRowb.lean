/-
  A row of bytes: an append of one, a copy into it; what stays. No walk.
-/
import Derived.Test.YtlplhllcohoeaaaKeeps
import Derived.Laws.CopyOwn
import Derived.Maps.AppendAt
namespace Go.Proofs.Ytlplhllcohoeaaa
open Go.RowKit
/-- The block of a slice. -/
def inA (A : Option Addr) : Nat → Prop := fun g => A.map Addr.block = some g
theorem fr_alloc (w : World) (o : Obj) (S : Nat → Prop) : Fr w (w.alloc o) S S := Fr.of_below ((Below.refl _ _).alloc (Nat.le_refl _) _)
theorem fr_drewN (w : World) (n : Nat) (S : Nat → Prop) : Fr w (w.drewN n) S S := Fr.of_below (belowDrewN (Below.refl _ _) n)
theorem own_in {A : Option Addr} {n c g : Nat} : (Value.slice A n c).ownBlock = some g ↔ inA A g := by
  cases A <;> simp [Value.ownBlock, inA]
theorem fr_app {w w' : World} {A A' : Option Addr} {n c n' c' : Nat} {o : Obj} (hg : (w.alloc o).grownBy w' (Value.slice A n c).ownBlock) (hb : (Value.slice A' n' c').ownBlock = (Value.slice A n c).ownBlock ∨ (Value.slice A' n' c').ownBlock = some (w.heap.size + 1)) : Fr w w' (inA A) (inA A') := by
  refine ⟨hg.os, hg.tape, hg.output, by have := hg.size; simp at this; omega, fun g hlt hne => ⟨?_, ?_⟩⟩
  · rw [hg.block g (by simp; omega) (fun e => hne (own_in.1 e.symm))]
    exact heap_alloc_old w o hlt
  · intro h
    rw [← own_in (n := n') (c := c')] at h
    rcases hb with hb | hb
    · rw [hb] at h; exact hne (own_in.1 h)
    · rw [hb] at h
      injection h with h
      omega
theorem bcells_app (l k : List Int) : bcells (l ++ k) = bcells l ++ bcells k := by simp [bcells]
theorem OwnB.app {w' : World} {n m : Nat} {L K : List Int} {v' : Value} (hL : L.length = n) (hK : K.length = m) (h : w'.ownsRow 0 5 1 v' (n+m) (bcells L ++ bcells K)) : ∃ A' c', v' = .slice A' (n+m) c' ∧ OwnB w' 0 A' (n+m) c' (L ++ K) := by
  obtain ⟨A', c', rfl⟩ := ext_of_ownB h
  exact ⟨A', c', rfl, by simp [hL, hK], by rw [bcells_app]; exact h⟩
theorem OwnB.shrink {w : World} {A : Option Addr} {n c : Nat} {l : List Int} (h : OwnB w 0 A n c l) (k : Nat) (hk : k ≤ n) : OwnB w 0 A k c (l.take k) := by
  obtain ⟨hl, h1, h2⟩ := h
  refine ⟨by simp [hl]; omega, by simp [bcells, hl]; omega, ?_⟩
  rcases h2 with ⟨hv, hn⟩ | ⟨g, cap, cur, hv, hb, hg, r1, r2, r3, r4⟩
  · injection hv with ha hn' hc
    subst ha; subst hc
    exact .inl ⟨by rw [show k = 0 by omega], by omega⟩
  · injection hv with ha hn' hc
    subst ha; subst hc
    refine .inr ⟨g, _, cur, rfl, hb, hg, by omega, r2, r3, ?_⟩
    have : bcells (l.take k) = (bcells l).take k := by simp [bcells]
    rw [this, ← r4, List.take_take]
    congr 1
    omega
/-- Bytes laid over others from a place on, with zeros between. -/
def layL (l : List Int) (at_ : Nat) (b : List Int) : List Int := splice (l ++ List.replicate (at_ + b.length - l.length) 0) at_ b
theorem layL_len (l : List Int) (at_ : Nat) (b : List Int) : (layL l at_ b).length = max l.length (at_ + b.length) := by
  unfold layL
  rw [length_splice]
  · simp; omega
  · simp; omega
theorem take_splice {α : Type} (L : List α) (o : Nat) (cs : List α) (n : Nat) (h : o + cs.length ≤ n) (hn : n ≤ L.length) : (splice L o cs).take n = splice (L.take n) o cs := by
  apply List.ext_getElem?
  intro i
  unfold splice
  simp only [List.getElem?_take, List.getElem?_append, List.length_take, List.getElem?_drop]
  grind
theorem map_splice {α β : Type} (f : α → β) (L : List α) (o : Nat) (cs : List α) : (splice L o cs).map f = splice (L.map f) o (cs.map f) := by simp [splice]
theorem OwnB.splice {w w' : World} {g n c : Nat} {l b : List Int} {cur : Array Value} {o : Nat} (h : OwnB w 0 (some ⟨g, 0, Option.none⟩) n c l) (hg : w.heap[g]? = some (.cells cur 5 (0, 0))) (hb : o + b.length ≤ n) (hg' : w'.heap[g]? = some (.cells (Go.splice cur.toList o (bcells b)).toArray 5 (0, 0))) : OwnB w' 0 (some ⟨g, 0, Option.none⟩) n c (Go.splice l o b) := by
  obtain ⟨hl, h1, h2⟩ := h
  refine ⟨by rw [length_splice _ _ _ (by omega)]; exact hl, by simp only [bcells, List.length_map]; rw [length_splice _ _ _ (by omega)]; omega, ?_⟩
  rcases h2 with ⟨hv, hn⟩ | ⟨g', cap, cur', hv, hb', hg2, r1, r2, r3, r4⟩
  · cases hv
  · injection hv with ha hn' hc
    injection ha with ha
    injection ha with ha
    subst ha; subst hc
    rw [hg] at hg2
    injection hg2 with hg2
    injection hg2 with hg2
    subst hg2
    have hcs : cur.toList.length = c := by rw [Array.length_toList, r3]; omega
    refine .inr ⟨g, _, _, rfl, Nat.zero_le _, hg', r1, r2, ?_, ?_⟩
    · rw [List.size_toArray, length_splice _ _ _ (by simp [bcells] at *; omega)]; omega
    · show ((Go.splice cur.toList o (bcells b))).take _ = _
      rw [Nat.mul_one] at *
      rw [take_splice _ _ _ _ (by simp [bcells]; omega) (by omega), r4]
      exact (map_splice _ _ _ _).symm
theorem run_copy_fr {P : Program} (w : World) (dT sT ty elem : TypeId) (g o dLen dCap : Nat) (a : Addr) (sLen sCap : Nat) (cur : Array Value) (t : TypeId) (cs : List Value)
    (hu : P.underlying dT = some (.slice elem)) (hs : (P.info? elem).map (·.size) = some 1) (hg : w.heap[g]? = some (.cells cur t (0, 0))) (hn : cs.length = Nat.min sLen dLen)
    (hsrc : ∀ j v, cs[j]? = some v → w.cell? (a.add j) = some v) (hfit : o + cs.length ≤ cur.size) (h1 : ∀ v ∈ cs, v.oneCell' = true) :
    ∃ w', (Builtin.copy_ #[dT, sT] ty #[.slice (some ⟨g, o, none⟩) dLen dCap, .slice (some a) sLen sCap]).run P w = .ok (.int .i64 cs.length) w' ∧
      w'.heap[g]? = some (.cells (Go.splice cur.toList o cs).toArray t (0, 0)) ∧ Fr w w' (fun x => x = g) (fun x => x = g) := by
  refine ⟨_, run_copy_row (P := P) w dT sT ty elem g o dLen dCap a sLen sCap cur t cs hu hs hg hn hsrc hfit h1, ?_, ⟨rfl, rfl, rfl, by simp, fun k _ hk => ⟨setRow_other w g k _ hk, hk⟩⟩⟩
  rw [List.append_assoc]
  exact setRow_heap w g _ _ t _ hg
end Go.Proofs.Ytlplhllcohoeaaa
