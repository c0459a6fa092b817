/-
  What sort.Ints leaves of a row of numbers of the call's own, and what the space's Back answers and leaves.
-/
import Derived.Test.YtobeppeadkoieaaSpk
import Derived.Test.YtobeppeadkoieaaBacks
import Derived.Test.YtobeppeadkoieaaIShelf
import Derived.Sort.OwnSortedInts
namespace Go.Proofs.Ytobeppeadkoieaa
open Go.RowKit
def sortI (l : List Int) : List Int := l.mergeSort fun x y => decide (x ≤ y)
theorem sortI_len (l : List Int) : (sortI l).length = l.length := List.length_mergeSort l
theorem SortInts_any (w : World) {base n c : Nat} {A : Option Addr} {l : List Int} (h : OwnI w base A n c l) (hn : n < 4611686018427387904) :
    Calls Try.prog 29 #[.slice A n c] w fun e w' => e = .returned (.tuple #[]) ∧ OwnI w' base A n c (sortI l) ∧ w.grownBy w' (Value.slice A n c).ownBlock := by
  by_cases h0 : n = 0
  · subst h0
    have hl : l = [] := List.eq_nil_of_length_eq_zero h.1
    subst hl
    refine (Any.sort_Ints_none Try.lays191 A c w).mono ?_
    rintro e w' ⟨rfl, rfl⟩
    exact ⟨rfl, by simpa [sortI] using h, World.grownBy.refl _ _⟩
  · have hl := h.1
    rcases h.2.2 with ⟨hv, hz⟩ | ⟨g, cap, cur, hv, hbg, hg, hnc, hcm, hcs, htake⟩
    · exact absurd hz h0
    · injection hv with ha hn' hc
      subst ha; subst hc
      subst hl
      have hH : Sort.Holds (Value.int .i64) w g 0 l.toArray := holds_of_blockI hg (by rw [Nat.mul_one] at htake; exact htake)
      refine (Any.sort_Ints Try.lays191 g 0 c l w hH (Array.getElem?_eq_some_iff.1 hg).1 hn).mono ?_
      rintro e w' ⟨rfl, m, os, rfl⟩
      refine ⟨rfl, ⟨sortI_len l, ?_⟩, grownBy_sortedI _⟩
      exact ownsRow_sortedI (ts := sortI l) (sortI_len l) hbg hg hnc hcm hcs
theorem OwnI.keptBy {w w' : World} {base n c : Nat} {A : Option Addr} {l : List Int} {r : Nat} (h : OwnI w base A n c l) (hg : w.grownBy w' (some r)) (hr : r < base) : OwnI w' base A n c l :=
  ⟨h.1, h.2.kept hg (.inr fun hh => by have := h.2.lt r hh; omega)⟩
theorem OwnI.shrink {w : World} {base : Nat} {A : Option Addr} {n c : Nat} {l : List Int} (h : OwnI w base A n c l) (k : Nat) (hk : k ≤ n) : OwnI w base A k c (l.take k) := by
  obtain ⟨hl, h1, h2⟩ := h
  refine ⟨by simp [hl]; omega, by simp [icells, hl]; omega, ?_⟩
  rcases h2 with ⟨hv, hn⟩ | ⟨g, cap, cur, hv, hb, hg, r1, r2, r3, r4⟩
  · injection hv with ha hn' hc
    subst ha; subst hc
    exact .inl ⟨by rw [show k = 0 by omega], by omega⟩
  · injection hv with ha hn' hc
    subst ha; subst hc
    refine .inr ⟨g, _, cur, rfl, hb, hg, by omega, r2, r3, ?_⟩
    have : icells (l.take k) = (icells l).take k := by simp [icells]
    rw [this, ← r4, List.take_take]
    congr 1
    omega
section
variable {w : World} {sb bu bw : Nat} {res : Int} {u wt : Int → Bool} {A : Option Addr} {c : Nat} {tk : List Int} {N : Nat}
theorem Back_bad (h : Sp w sb bu bw res u wt A c tk N) (mark : Int) (hm : mark < 0 ∨ (tk.length : Int) < mark) :
    Calls Try.prog 14 #[.pointer (some ⟨sb, 0, none⟩), .int .i64 mark] w fun e w' => e = .returned (.tuple #[.slice none 0 0, .int .i64 1]) ∧ w = w' := by
  have c3 := h.c3
  clear h
  by_cases h0 : mark < 0
  · go_enter Try.func14, Try.ntmps14
    go_wp2_with fail
    go_ret2
    exact ⟨rfl, rfl⟩
  · have h1 : (tk.length : Int) < mark := hm.resolve_left h0
    go_enter Try.func14, Try.ntmps14
    go_wp2_with fail
    go_ret2
    exact ⟨rfl, rfl⟩
theorem bfold_take (xs : List Int) (k : Nat) (x : Int) (s : (Int → Bool) × List Int) (h : xs[k]? = some x) : (xs.take (k+1)).foldl bstep s = bstep ((xs.take k).foldl bstep s) x := by
  rw [take_snoc xs k x h, List.foldl_append]; rfl
/-- A row beside a space that is sorted. -/
theorem Sp.sorted {w w' : World} {n co : Nat} {Ao : Option Addr} (h : Sp w sb bu bw res u wt A c tk N) (hg : w.grownBy w' (Value.slice Ao n co).ownBlock) (hA : ∀ b, inA Ao b → sb < b ∧ ¬ inA A b) : Sp w' sb bu bw res u wt A c tk N := by
  refine h.stays hg.size fun b hb hS => hg.block b hb fun e => ?_
  have hi : inA Ao b := by
    cases Ao with
    | none => cases e
    | some a => simp [Value.ownBlock] at e; exact inA_some.2 e.symm
  obtain ⟨h1, h2⟩ := hA b hi
  rcases hS with hS | hS
  · omega
  · exact h2 hS
end
end Go.Proofs.Ytobeppeadkoieaa
