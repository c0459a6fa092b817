/-
  Slices of ranges and of numbers in memory: read, owned. No program in sight.
-/
import Derived.Test.YtobeppeadkoieaaRows
import Derived.Test.YtobeppeadkoieaaRSets
import Derived.WalkKit
import Derived.WalkSpells
import Derived.ProofKit
import Derived.OwnWalk
import Derived.Lib.Hide
import Derived.Laws.AppendOwn
import Derived.Laws.AppendOwnNone
import Derived.Deep.Draws
namespace Go.Proofs.Ytobeppeadkoieaa.Rg
open Go.RowKit
theorem take_snoc {α : Type} (l : List α) (k : Nat) (s : α) (h : l[k]? = some s) : l.take (k+1) = l.take k ++ [s] := by
  rw [List.take_add_one, h]; rfl
theorem get_some {α : Type} (l : List α) (k : Nat) (h : k < l.length) : ∃ s, l[k]? = some s := ⟨_, List.getElem?_eq_getElem h⟩
def cells (l : List R) : List Value := l.flatMap fun s => [.int .i64 s.1, .int .i64 s.2]
theorem cells_len (l : List R) : (cells l).length = l.length * 2 := by
  induction l with
  | nil => rfl
  | cons a l ih => simp only [cells, List.flatMap_cons, List.length_append] at ih ⊢; simp [ih]; omega
theorem cells_append (l m : List R) : cells (l ++ m) = cells l ++ cells m := by simp [cells]
theorem cells_cons (s : R) (l : List R) : cells (s :: l) = .int .i64 s.1 :: .int .i64 s.2 :: cells l := rfl
theorem cells_one (s : R) : cells [s] = [.int .i64 s.1, .int .i64 s.2] := rfl
theorem cells_get (l : List R) (k : Nat) (s : R) (h : l[k]? = some s) :
    (cells l)[k*2]? = some (.int .i64 s.1) ∧ (cells l)[k*2+1]? = some (.int .i64 s.2) := by
  induction l generalizing k with
  | nil => simp at h
  | cons a l ih =>
    cases k with
    | zero => simp at h; subst h; simp [cells_cons]
    | succ k =>
      simp at h
      obtain ⟨h0, h1⟩ := ih k h
      rw [cells_cons]
      have e : (k+1)*2 = k*2+1+1 := by omega
      rw [e]
      refine ⟨?_, ?_⟩
      · simpa using h0
      · simpa using h1
theorem cells_one_cell (l : List R) : ∀ u ∈ cells l, u.oneCell' = true := by
  intro u hu
  unfold cells at hu
  obtain ⟨s, _, h⟩ := List.mem_flatMap.1 hu
  simp at h
  rcases h with rfl | rfl <;> rfl
theorem cells_setto (l : List R) (s : R) (x : Int) : cells (l ++ [(s.1, x)]) = (cells (l ++ [s])).set (l.length * 2 + 1) (.int .i64 x) := by
  rw [cells_append, cells_append, List.set_append_right _ _ (by rw [cells_len]; omega), cells_len]
  have e : l.length * 2 + 1 - l.length * 2 = 1 := by omega
  rw [e]; rfl

/-! ### A slice that reads as a list, nil let in -/
def Rd (w : World) (B : Nat) (A : Option Addr) (l : List R) : Prop :=
  ∀ k s, l[k]? = some s → ∃ b off, A = some ⟨b, off, none⟩ ∧ b < B ∧ w.cell? ⟨b, off + k * 2, none⟩ = some (.int .i64 s.1) ∧ w.cell? ⟨b, off + k * 2 + 1, none⟩ = some (.int .i64 s.2)

theorem Rd.keep {w w' : World} {B : Nat} {A : Option Addr} {l : List R} (h : Rd w B A l) (hk : ∀ p : Addr, p.block < B → w'.cell? p = w.cell? p) : Rd w' B A l := by
  intro k s hs
  obtain ⟨b, off, e, hb, h0, h1⟩ := h k s hs
  exact ⟨b, off, e, hb, (hk _ hb).trans h0, (hk _ hb).trans h1⟩
theorem Rd.below {w w' : World} {B B' : Nat} {A : Option Addr} {l : List R} (h : Rd w B A l) (hb : Below B' w w') (hB : B ≤ B') : Rd w' B A l := h.keep fun _ hp => hb.cell (by omega)
theorem Rd.more {w : World} {B B' : Nat} {A : Option Addr} {l : List R} (h : Rd w B A l) (hB : B ≤ B') : Rd w B' A l := by
  intro k s hs
  obtain ⟨b, off, e, hb, hh⟩ := h k s hs
  exact ⟨b, off, e, by omega, hh⟩
theorem Rd.up {w w' : World} {A : Option Addr} {l : List R} (h : Rd w w.heap.size A l) (hb : Below w.heap.size w w') : Rd w' w'.heap.size A l := (h.below hb (Nat.le_refl _)).more hb.size
theorem Rd.alloc {w : World} {B : Nat} {A : Option Addr} {l : List R} (h : Rd w B A l) (hB : B ≤ w.heap.size) (o : Obj) : Rd (w.alloc o) B A l := h.keep fun p hp => World.cell?_alloc_lt w o p (by omega)
theorem Rd.nil (w : World) (B : Nat) (A : Option Addr) : Rd w B A [] := fun k s hs => by simp at hs
theorem Rd.drewN {w : World} {B : Nat} {A : Option Addr} {l : List R} (h : Rd w B A l) (n : Nat) : Rd (w.drewN n) B A l := h
/-- A row but its first range. -/
theorem Rd.tail {w : World} {B b off : Nat} {s : R} {l : List R} (h : Rd w B (some ⟨b, off, none⟩) (s :: l)) : Rd w B (some ⟨b, off + 2, none⟩) l := by
  intro k v hv
  obtain ⟨b', off', e, hb, h0, h1⟩ := h (k+1) v (by simpa using hv)
  cases e
  exact ⟨b, off + 2, rfl, hb, by rw [show off + 2 + k * 2 = off + (k+1) * 2 by omega]; exact h0, by rw [show off + 2 + k * 2 = off + (k+1) * 2 by omega]; exact h1⟩
theorem Rd.cells' {w : World} {B : Nat} {A : Option Addr} {l : List R} (h : Rd w B A l) : ∀ ad, A = some ad → ∀ j u, (cells l)[j]? = some u → w.cell? (ad.add j) = some u := by
  intro ad hA j u hu
  have hj : j < l.length * 2 := by rw [← cells_len]; exact (List.getElem?_eq_some_iff.1 hu).1
  obtain ⟨s, hs⟩ := get_some l (j / 2) (by omega)
  obtain ⟨b, off, e, hb, h0, h1⟩ := h _ s hs
  obtain ⟨g0, g1⟩ := cells_get l (j / 2) s hs
  rw [hA] at e
  cases e
  have hadd : (⟨b, off, none⟩ : Addr).add j = ⟨b, off + j, none⟩ := by unfold Addr.add; split <;> simp_all
  rw [hadd]
  rcases Nat.mod_two_eq_zero_or_one j with hm | hm
  · rw [show j / 2 * 2 = j by omega] at h0 g0
    rw [h0]; rw [g0] at hu; exact hu
  · rw [show off + j / 2 * 2 + 1 = off + j by omega] at h1
    rw [show j / 2 * 2 + 1 = j by omega] at g1
    rw [h1]; rw [g1] at hu; exact hu

/-- The call's own row of ranges. -/
def Own (w : World) (base : Nat) (A : Option Addr) (n cap : Nat) (l : List R) : Prop := l.length = n ∧ w.ownsRow base 63 2 (.slice A n cap) n (cells l)
theorem Own.rd {w : World} {base : Nat} {A : Option Addr} {n cap : Nat} {l : List R} (h : Own w base A n cap l) : Rd w w.heap.size A l := by
  obtain ⟨hl, h⟩ := h
  intro k s hs
  have hk : k < l.length := (List.getElem?_eq_some_iff.1 hs).1
  have h2 := h.2
  rcases h2 with ⟨hv, hn⟩ | ⟨g, cap', cur, hv, hbg, hg, hr⟩
  · omega
  · injection hv with ha hn hc
    subst ha; subst hc
    obtain ⟨c0, c1⟩ := cells_get l k s hs
    have hlt : g < w.heap.size := (Array.getElem?_eq_some_iff.1 hg).1
    refine ⟨g, 0, rfl, hlt, ?_, ?_⟩
    · rw [h.cellAt _ (by omega)]; simpa using c0
    · rw [h.cellAt _ (by omega)]; simpa using c1
theorem Own.nil (w : World) (base : Nat) : Own w base none 0 0 [] := ⟨rfl, World.ownsRow_nil _ _ _ _⟩
theorem Own.below {w w' : World} {base : Nat} {A : Option Addr} {n cap B : Nat} {l : List R} (h : Own w base A n cap l) (hb : Below B w w') (hB : w.heap.size ≤ B) : Own w' base A n cap l :=
  ⟨h.1, h.2.kept (row := none) ⟨hb.os, hb.tape, hb.output, hb.size, fun k hk _ => hb.block k (by omega)⟩ (by cases A <;> simp [Value.ownBlock])⟩
theorem Own.up {w w' : World} {base : Nat} {A : Option Addr} {n cap : Nat} {l : List R} (h : Own w base A n cap l) (hb : Below w.heap.size w w') : Own w' base A n cap l := h.below hb (Nat.le_refl _)
theorem Own.alloc {w : World} {base : Nat} {A : Option Addr} {n cap : Nat} {l : List R} (h : Own w base A n cap l) (o : Obj) : Own (w.alloc o) base A n cap l := ⟨h.1, h.2.alloc o⟩
theorem Own.drewN {w : World} {base : Nat} {A : Option Addr} {n cap : Nat} {l : List R} (h : Own w base A n cap l) (k : Nat) : Own (w.drewN k) base A n cap l := h
theorem Own.mono {w : World} {base base' : Nat} {A : Option Addr} {n cap : Nat} {l : List R} (h : Own w base A n cap l) (hB : base' ≤ base) : Own w base' A n cap l := by
  obtain ⟨h0, h1, h2⟩ := h
  refine ⟨h0, h1, ?_⟩
  rcases h2 with h2 | ⟨g, cap', cur, hv, hbg, hr⟩
  · exact .inl h2
  · exact .inr ⟨g, cap', cur, hv, by omega, hr⟩
/-- A row that holds something lies at the head of a block of the call's own. -/
theorem Own.form {w : World} {base : Nat} {A : Option Addr} {n cap : Nat} {l : List R} (h : Own w base A n cap l) (hn : 0 < n) : ∃ g, A = some ⟨g, 0, Option.none⟩ ∧ base ≤ g ∧ g < w.heap.size ∧ n ≤ cap ∧ cap ≤ maxLen := by
  obtain ⟨hl, h1, h2⟩ := h
  rcases h2 with ⟨hv, hn'⟩ | ⟨g, cap', cur, hv, hbg, hg, hnc, hcm, _⟩
  · omega
  · injection hv with ha _ hc
    subst hc
    exact ⟨g, ha, hbg, (Array.getElem?_eq_some_iff.1 hg).1, hnc, hcm⟩
theorem Own.cap {w : World} {base : Nat} {A : Option Addr} {n cap : Nat} {l : List R} (h : Own w base A n cap l) : n ≤ cap ∧ cap ≤ maxLen := by
  obtain ⟨hl, h1, h2⟩ := h
  rcases h2 with ⟨hv, hn'⟩ | ⟨g, cap', cur, hv, hbg, hg, hnc, hcm, _⟩
  · injection hv with _ hn hc
    subst hc; omega
  · injection hv with ha _ hc
    subst hc
    exact ⟨hnc, hcm⟩
theorem Own.nilOr {w : World} {base : Nat} {A : Option Addr} {n cap : Nat} {l : List R} (h : Own w base A n cap l) : (A = Option.none ∧ n = 0 ∧ cap = 0) ∨ ∃ g, A = some ⟨g, 0, Option.none⟩ ∧ base ≤ g ∧ g < w.heap.size := by
  obtain ⟨hl, h1, h2⟩ := h
  rcases h2 with ⟨hv, hn'⟩ | ⟨g, cap', cur, hv, hbg, hg, hnc, hcm, _⟩
  · injection hv with ha hn hc
    exact .inl ⟨ha, hn', hc⟩
  · injection hv with ha _ hc
    exact .inr ⟨g, ha, hbg, (Array.getElem?_eq_some_iff.1 hg).1⟩
theorem Own.none {w : World} {base : Nat} {A : Option Addr} {n c : Nat} {l : List R} (h : Own w base A n c l) : A = .none → n = 0 ∧ c = 0 := by
  intro hA
  rcases h.nilOr with ⟨_, h1, h2⟩ | ⟨g, h1, _⟩
  · exact ⟨h1, h2⟩
  · rw [hA] at h1; cases h1
/-- The cells of the last range of a row. -/
theorem Own.last {w : World} {base : Nat} {A : Option Addr} {n cap : Nat} {l : List R} {t : R} (h : Own w base A (n+1) cap (l ++ [t])) :
    ∃ g, A = some ⟨g, 0, Option.none⟩ ∧ base ≤ g ∧ g < w.heap.size ∧ w.cell? ⟨g, n * 2, Option.none⟩ = some (.int .i64 t.1) ∧ w.cell? ⟨g, n * 2 + 1, Option.none⟩ = some (.int .i64 t.2) ∧ w.frozen? ⟨g, n * 2 + 1, Option.none⟩ = false := by
  have hl := h.1
  have hn : l.length = n := by simpa using hl
  obtain ⟨g, rfl, hb, hg, _⟩ := h.form (by omega)
  have hs : (l ++ [t])[n]? = some t := by rw [List.getElem?_append_right (by omega)]; simp [hn]
  obtain ⟨c0, c1⟩ := cells_get _ n t hs
  refine ⟨g, rfl, hb, hg, ?_, ?_, ?_⟩
  · rw [h.2.cellAt _ (by omega)]; exact c0
  · rw [h.2.cellAt _ (by omega)]; exact c1
  · exact h.2.frozenAt _
/-- A store into the last range's end. -/
theorem Own.setLast {w : World} {base g n cap : Nat} {l : List R} {t : R} (h : Own w base (some ⟨g, 0, Option.none⟩) (n+1) cap (l ++ [t])) (x : Int) :
    Own (w.setCell ⟨g, n * 2 + 1, Option.none⟩ (.int .i64 x)) base (some ⟨g, 0, Option.none⟩) (n+1) cap (l ++ [(t.1, x)]) := by
  have hn : l.length = n := by simpa using h.1
  have h1 := (h.2.stored (n * 2 + 1) (.int .i64 x)).1
  refine ⟨by simp [hn], ?_⟩
  have e := cells_setto l t x
  rw [hn] at e
  rw [← e] at h1
  exact h1
theorem ext_of_own {w' : World} {base : Nat} {v : Value} {n : Nat} {xs : List Value} (h : w'.ownsRow base 63 2 v n xs) : ∃ A cap, v = .slice A n cap := by
  rcases h.2 with ⟨hv, hn⟩ | ⟨g, cap', cur, hv, _⟩
  · subst hn; exact ⟨_, _, hv⟩
  · exact ⟨_, _, hv⟩
theorem cell_new (w : World) (cs : Array Value) (t : TypeId) (j : Nat) : (w.alloc (.cells cs t)).cell? ⟨w.heap.size, j, none⟩ = cs[j]? := cell_of_row _ _ j cs t (0, 0) (heap_alloc_new w _)
theorem new_one (w : World) (s : R) (g : Nat) (hg : g = w.heap.size) : ∀ j u, (cells [s])[j]? = some u → (w.alloc (.cells #[.int .i64 s.1, .int .i64 s.2] 63)).cell? ((⟨g, 0, none⟩ : Addr).add j) = some u := by
  subst hg
  intro j u hu
  have hadd : (⟨w.heap.size, 0, none⟩ : Addr).add j = ⟨w.heap.size, j, none⟩ := by unfold Addr.add; split <;> simp_all
  rw [hadd, cell_of_row _ _ j _ 63 (0, 0) (heap_alloc_new w _)]
  simpa [cells_one] using hu
/-- Behind an append of ranges to the call's own row. -/
theorem appL_step {w wr W0 w1 : World} {BB n m c : Nat} {A' : Option Addr} {L K : List R} {v' : Value} (hown : Own wr BB A' n c L) (hb : Below BB w wr) (hsz : BB ≤ wr.heap.size)
    (hW : Below wr.heap.size wr W0) (hK : K.length = m) (hown' : w1.ownsRow BB 63 2 v' (n+m) (cells L ++ cells K)) (hg : W0.grownBy w1 (Value.slice A' n c).ownBlock) :
    (∃ A'' c'', v' = .slice A'' (n+m) c'' ∧ Own w1 BB A'' (n+m) c'' (L ++ K)) ∧ Below BB w w1 ∧ Below BB wr w1 ∧ W0.heap.size ≤ w1.heap.size ∧ (∀ g o, wr.heap.size ≤ g → g < W0.heap.size → w1.cell? ⟨g, o, none⟩ = W0.cell? ⟨g, o, none⟩) := by
  have hr : ∀ k, (Value.slice A' n c).ownBlock = some k → BB ≤ k ∧ k < wr.heap.size := hown.2.lt
  refine ⟨?_, ?_, (hW.mono hsz).grown hg (by have := hW.size; omega) (fun k hk => (hr k hk).1), hg.size, ?_⟩
  · obtain ⟨A'', c'', rfl⟩ := ext_of_own hown'
    exact ⟨A'', c'', rfl, by simp [hown.1, hK], by rw [cells_append]; exact hown'⟩
  · exact (hb.trans (hW.mono hsz)).grown hg (by have := hW.size; omega) (fun k hk => (hr k hk).1)
  · intro g o h1 h2
    exact World.cell?_of_block (w := W0) (a := ⟨g, o, none⟩) (hg.block g h2 (fun e => by have := (hr g e.symm).2; omega))
theorem ret_int {k : IntKind} {a b : Int} (h : a = b) : Ending.returned (.int k a) = .returned (.int k b) := by rw [h]
theorem ret_bool {a b : Bool} (h : a = b) : Ending.returned (.bool a) = .returned (.bool b) := by rw [h]
theorem belowDrewN {B : Nat} {a w : World} (h : Below B a w) (n : Nat) : Below B a (w.drewN n) := ⟨h.os, h.tape, h.output, h.size, h.block⟩
theorem below_up {w w1 w2 : World} (h : Below w.heap.size w w1) (h' : Below w1.heap.size w1 w2) : Below w.heap.size w w2 := h.trans (h'.mono h.size)
end Go.Proofs.Ytobeppeadkoieaa.Rg
