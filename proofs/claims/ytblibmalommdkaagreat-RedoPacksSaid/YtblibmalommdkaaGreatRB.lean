/-
  RB: texts of one kind, one behind the other.
-/
import Derived.Test.YtblibmalommdkaaGreatRows
import Derived.Test.YtblibmalommdkaaGreatRA
import Derived.WalkKit
import Derived.WalkSpells
import Derived.ProofKit
import Derived.OwnWalk
import Derived.Lib.Hide
import Derived.Laws.AppendOwn
import Derived.Laws.AppendOwnNone
import Derived.Deep.Draws
import Derived.Outline
import Derived.BigQuiet
import Derived.Deep.QuietTactic
import Derived.Deep.DeepCutAuto
import Derived.WalkLawsBesides
import Derived.Handy
/-
  Slices of ranges and of numbers in memory: read, owned. No program in sight.
-/
namespace Go.Proofs.YtblibmalommdkaaGreat
open Go.RowKit
theorem take_snoc {α : Type} (l : List α) (k : Nat) (s : α) (h : l[k]? = some s) : l.take (k+1) = l.take k ++ [s] := by
  rw [List.take_add_one, h]; rfl
theorem get_some {α : Type} (l : List α) (k : Nat) (h : k < l.length) : ∃ s, l[k]? = some s := ⟨_, List.getElem?_eq_getElem h⟩
def cells (l : List R) : List Value := l.flatMap fun s => [.int .i64 s.1, .int .i64 s.2]
theorem cells_len (l : List R) : (cells l).length = l.length * 2 := by
  induction l with
  | nil => rfl
  | cons a l ih => simp only [cells, List.flatMap_cons, List.length_append] at ih ⊢; simp [ih]; omega
theorem cells_append (l m : List R) : cells (l ++ m) = cells l ++ cells m := by simp [cells]
theorem cells_cons (s : R) (l : List R) : cells (s :: l) = .int .i64 s.1 :: .int .i64 s.2 :: cells l := rfl
theorem cells_one (s : R) : cells [s] = [.int .i64 s.1, .int .i64 s.2] := rfl
theorem cells_get (l : List R) (k : Nat) (s : R) (h : l[k]? = some s) :
    (cells l)[k*2]? = some (.int .i64 s.1) ∧ (cells l)[k*2+1]? = some (.int .i64 s.2) := by
  induction l generalizing k with
  | nil => simp at h
  | cons a l ih =>
    cases k with
    | zero => simp at h; subst h; simp [cells_cons]
    | succ k =>
      simp at h
      obtain ⟨h0, h1⟩ := ih k h
      rw [cells_cons]
      have e : (k+1)*2 = k*2+1+1 := by omega
      rw [e]
      refine ⟨?_, ?_⟩
      · simpa using h0
      · simpa using h1
theorem cells_one_cell (l : List R) : ∀ u ∈ cells l, u.oneCell' = true := by
  intro u hu
  unfold cells at hu
  obtain ⟨s, _, h⟩ := List.mem_flatMap.1 hu
  simp at h
  rcases h with rfl | rfl <;> rfl
theorem cells_setto (l : List R) (s : R) (x : Int) : cells (l ++ [(s.1, x)]) = (cells (l ++ [s])).set (l.length * 2 + 1) (.int .i64 x) := by
  rw [cells_append, cells_append, List.set_append_right _ _ (by rw [cells_len]; omega), cells_len]
  have e : l.length * 2 + 1 - l.length * 2 = 1 := by omega
  rw [e]; rfl

/-! ### A slice that reads as a list, nil let in -/
def Rd (w : World) (B : Nat) (A : Option Addr) (l : List R) : Prop :=
  ∀ k s, l[k]? = some s → ∃ b off, A = some ⟨b, off, none⟩ ∧ b < B ∧ w.cell? ⟨b, off + k * 2, none⟩ = some (.int .i64 s.1) ∧ w.cell? ⟨b, off + k * 2 + 1, none⟩ = some (.int .i64 s.2)

theorem Rd.keep {w w' : World} {B : Nat} {A : Option Addr} {l : List R} (h : Rd w B A l) (hk : ∀ p : Addr, p.block < B → w'.cell? p = w.cell? p) : Rd w' B A l := by
  intro k s hs
  obtain ⟨b, off, e, hb, h0, h1⟩ := h k s hs
  exact ⟨b, off, e, hb, (hk _ hb).trans h0, (hk _ hb).trans h1⟩
theorem Rd.below {w w' : World} {B B' : Nat} {A : Option Addr} {l : List R} (h : Rd w B A l) (hb : Below B' w w') (hB : B ≤ B') : Rd w' B A l := h.keep fun _ hp => hb.cell (by omega)
theorem Rd.more {w : World} {B B' : Nat} {A : Option Addr} {l : List R} (h : Rd w B A l) (hB : B ≤ B') : Rd w B' A l := by
  intro k s hs
  obtain ⟨b, off, e, hb, hh⟩ := h k s hs
  exact ⟨b, off, e, by omega, hh⟩
theorem Rd.up {w w' : World} {A : Option Addr} {l : List R} (h : Rd w w.heap.size A l) (hb : Below w.heap.size w w') : Rd w' w'.heap.size A l := (h.below hb (Nat.le_refl _)).more hb.size
theorem Rd.alloc {w : World} {B : Nat} {A : Option Addr} {l : List R} (h : Rd w B A l) (hB : B ≤ w.heap.size) (o : Obj) : Rd (w.alloc o) B A l := h.keep fun p hp => World.cell?_alloc_lt w o p (by omega)
theorem Rd.nil (w : World) (B : Nat) (A : Option Addr) : Rd w B A [] := fun k s hs => by simp at hs
theorem Rd.drewN {w : World} {B : Nat} {A : Option Addr} {l : List R} (h : Rd w B A l) (n : Nat) : Rd (w.drewN n) B A l := h
/-- A row but its first range. -/
theorem Rd.tail {w : World} {B b off : Nat} {s : R} {l : List R} (h : Rd w B (some ⟨b, off, none⟩) (s :: l)) : Rd w B (some ⟨b, off + 2, none⟩) l := by
  intro k v hv
  obtain ⟨b', off', e, hb, h0, h1⟩ := h (k+1) v (by simpa using hv)
  cases e
  exact ⟨b, off + 2, rfl, hb, by rw [show off + 2 + k * 2 = off + (k+1) * 2 by omega]; exact h0, by rw [show off + 2 + k * 2 = off + (k+1) * 2 by omega]; exact h1⟩
theorem Rd.cells' {w : World} {B : Nat} {A : Option Addr} {l : List R} (h : Rd w B A l) : ∀ ad, A = some ad → ∀ j u, (cells l)[j]? = some u → w.cell? (ad.add j) = some u := by
  intro ad hA j u hu
  have hj : j < l.length * 2 := by rw [← cells_len]; exact (List.getElem?_eq_some_iff.1 hu).1
  obtain ⟨s, hs⟩ := get_some l (j / 2) (by omega)
  obtain ⟨b, off, e, hb, h0, h1⟩ := h _ s hs
  obtain ⟨g0, g1⟩ := cells_get l (j / 2) s hs
  rw [hA] at e
  cases e
  have hadd : (⟨b, off, none⟩ : Addr).add j = ⟨b, off + j, none⟩ := by unfold Addr.add; split <;> simp_all
  rw [hadd]
  rcases Nat.mod_two_eq_zero_or_one j with hm | hm
  · rw [show j / 2 * 2 = j by omega] at h0 g0
    rw [h0]; rw [g0] at hu; exact hu
  · rw [show off + j / 2 * 2 + 1 = off + j by omega] at h1
    rw [show j / 2 * 2 + 1 = j by omega] at g1
    rw [h1]; rw [g1] at hu; exact hu

/-- The call's own row of ranges. -/
def Own (w : World) (base : Nat) (A : Option Addr) (n cap : Nat) (l : List R) : Prop := l.length = n ∧ w.ownsRow base 74 2 (.slice A n cap) n (cells l)
theorem Own.rd {w : World} {base : Nat} {A : Option Addr} {n cap : Nat} {l : List R} (h : Own w base A n cap l) : Rd w w.heap.size A l := by
  obtain ⟨hl, h⟩ := h
  intro k s hs
  have hk : k < l.length := (List.getElem?_eq_some_iff.1 hs).1
  have h2 := h.2
  rcases h2 with ⟨hv, hn⟩ | ⟨g, cap', cur, hv, hbg, hg, hr⟩
  · omega
  · injection hv with ha hn hc
    subst ha; subst hc
    obtain ⟨c0, c1⟩ := cells_get l k s hs
    have hlt : g < w.heap.size := (Array.getElem?_eq_some_iff.1 hg).1
    refine ⟨g, 0, rfl, hlt, ?_, ?_⟩
    · rw [h.cellAt _ (by omega)]; simpa using c0
    · rw [h.cellAt _ (by omega)]; simpa using c1
theorem Own.nil (w : World) (base : Nat) : Own w base none 0 0 [] := ⟨rfl, World.ownsRow_nil _ _ _ _⟩
theorem Own.below {w w' : World} {base : Nat} {A : Option Addr} {n cap B : Nat} {l : List R} (h : Own w base A n cap l) (hb : Below B w w') (hB : w.heap.size ≤ B) : Own w' base A n cap l :=
  ⟨h.1, h.2.kept (row := none) ⟨hb.os, hb.tape, hb.output, hb.size, fun k hk _ => hb.block k (by omega)⟩ (by cases A <;> simp [Value.ownBlock])⟩
theorem Own.up {w w' : World} {base : Nat} {A : Option Addr} {n cap : Nat} {l : List R} (h : Own w base A n cap l) (hb : Below w.heap.size w w') : Own w' base A n cap l := h.below hb (Nat.le_refl _)
theorem Own.alloc {w : World} {base : Nat} {A : Option Addr} {n cap : Nat} {l : List R} (h : Own w base A n cap l) (o : Obj) : Own (w.alloc o) base A n cap l := ⟨h.1, h.2.alloc o⟩
theorem Own.drewN {w : World} {base : Nat} {A : Option Addr} {n cap : Nat} {l : List R} (h : Own w base A n cap l) (k : Nat) : Own (w.drewN k) base A n cap l := h
theorem Own.mono {w : World} {base base' : Nat} {A : Option Addr} {n cap : Nat} {l : List R} (h : Own w base A n cap l) (hB : base' ≤ base) : Own w base' A n cap l := by
  obtain ⟨h0, h1, h2⟩ := h
  refine ⟨h0, h1, ?_⟩
  rcases h2 with h2 | ⟨g, cap', cur, hv, hbg, hr⟩
  · exact .inl h2
  · exact .inr ⟨g, cap', cur, hv, by omega, hr⟩
/-- A row that holds something lies at the head of a block of the call's own. -/
theorem Own.form {w : World} {base : Nat} {A : Option Addr} {n cap : Nat} {l : List R} (h : Own w base A n cap l) (hn : 0 < n) : ∃ g, A = some ⟨g, 0, Option.none⟩ ∧ base ≤ g ∧ g < w.heap.size ∧ n ≤ cap ∧ cap ≤ maxLen := by
  obtain ⟨hl, h1, h2⟩ := h
  rcases h2 with ⟨hv, hn'⟩ | ⟨g, cap', cur, hv, hbg, hg, hnc, hcm, _⟩
  · omega
  · injection hv with ha _ hc
    subst hc
    exact ⟨g, ha, hbg, (Array.getElem?_eq_some_iff.1 hg).1, hnc, hcm⟩
theorem Own.cap {w : World} {base : Nat} {A : Option Addr} {n cap : Nat} {l : List R} (h : Own w base A n cap l) : n ≤ cap ∧ cap ≤ maxLen := by
  obtain ⟨hl, h1, h2⟩ := h
  rcases h2 with ⟨hv, hn'⟩ | ⟨g, cap', cur, hv, hbg, hg, hnc, hcm, _⟩
  · injection hv with _ hn hc
    subst hc; omega
  · injection hv with ha _ hc
    subst hc
    exact ⟨hnc, hcm⟩
theorem Own.nilOr {w : World} {base : Nat} {A : Option Addr} {n cap : Nat} {l : List R} (h : Own w base A n cap l) : (A = Option.none ∧ n = 0 ∧ cap = 0) ∨ ∃ g, A = some ⟨g, 0, Option.none⟩ ∧ base ≤ g ∧ g < w.heap.size := by
  obtain ⟨hl, h1, h2⟩ := h
  rcases h2 with ⟨hv, hn'⟩ | ⟨g, cap', cur, hv, hbg, hg, hnc, hcm, _⟩
  · injection hv with ha hn hc
    exact .inl ⟨ha, hn', hc⟩
  · injection hv with ha _ hc
    exact .inr ⟨g, ha, hbg, (Array.getElem?_eq_some_iff.1 hg).1⟩
theorem Own.none {w : World} {base : Nat} {A : Option Addr} {n c : Nat} {l : List R} (h : Own w base A n c l) : A = .none → n = 0 ∧ c = 0 := by
  intro hA
  rcases h.nilOr with ⟨_, h1, h2⟩ | ⟨g, h1, _⟩
  · exact ⟨h1, h2⟩
  · rw [hA] at h1; cases h1
/-- The cells of the last range of a row. -/
theorem Own.last {w : World} {base : Nat} {A : Option Addr} {n cap : Nat} {l : List R} {t : R} (h : Own w base A (n+1) cap (l ++ [t])) :
    ∃ g, A = some ⟨g, 0, Option.none⟩ ∧ base ≤ g ∧ g < w.heap.size ∧ w.cell? ⟨g, n * 2, Option.none⟩ = some (.int .i64 t.1) ∧ w.cell? ⟨g, n * 2 + 1, Option.none⟩ = some (.int .i64 t.2) ∧ w.frozen? ⟨g, n * 2 + 1, Option.none⟩ = false := by
  have hl := h.1
  have hn : l.length = n := by simpa using hl
  obtain ⟨g, rfl, hb, hg, _⟩ := h.form (by omega)
  have hs : (l ++ [t])[n]? = some t := by rw [List.getElem?_append_right (by omega)]; simp [hn]
  obtain ⟨c0, c1⟩ := cells_get _ n t hs
  refine ⟨g, rfl, hb, hg, ?_, ?_, ?_⟩
  · rw [h.2.cellAt _ (by omega)]; exact c0
  · rw [h.2.cellAt _ (by omega)]; exact c1
  · exact h.2.frozenAt _
/-- A store into the last range's end. -/
theorem Own.setLast {w : World} {base g n cap : Nat} {l : List R} {t : R} (h : Own w base (some ⟨g, 0, Option.none⟩) (n+1) cap (l ++ [t])) (x : Int) :
    Own (w.setCell ⟨g, n * 2 + 1, Option.none⟩ (.int .i64 x)) base (some ⟨g, 0, Option.none⟩) (n+1) cap (l ++ [(t.1, x)]) := by
  have hn : l.length = n := by simpa using h.1
  have h1 := (h.2.stored (n * 2 + 1) (.int .i64 x)).1
  refine ⟨by simp [hn], ?_⟩
  have e := cells_setto l t x
  rw [hn] at e
  rw [← e] at h1
  exact h1
theorem ext_of_own {w' : World} {base : Nat} {v : Value} {n : Nat} {xs : List Value} (h : w'.ownsRow base 74 2 v n xs) : ∃ A cap, v = .slice A n cap := by
  rcases h.2 with ⟨hv, hn⟩ | ⟨g, cap', cur, hv, _⟩
  · subst hn; exact ⟨_, _, hv⟩
  · exact ⟨_, _, hv⟩
theorem cell_new (w : World) (cs : Array Value) (t : TypeId) (j : Nat) : (w.alloc (.cells cs t)).cell? ⟨w.heap.size, j, none⟩ = cs[j]? := cell_of_row _ _ j cs t (0, 0) (heap_alloc_new w _)
theorem new_one (w : World) (s : R) (g : Nat) (hg : g = w.heap.size) : ∀ j u, (cells [s])[j]? = some u → (w.alloc (.cells #[.int .i64 s.1, .int .i64 s.2] 74)).cell? ((⟨g, 0, none⟩ : Addr).add j) = some u := by
  subst hg
  intro j u hu
  have hadd : (⟨w.heap.size, 0, none⟩ : Addr).add j = ⟨w.heap.size, j, none⟩ := by unfold Addr.add; split <;> simp_all
  rw [hadd, cell_of_row _ _ j _ 74 (0, 0) (heap_alloc_new w _)]
  simpa [cells_one] using hu
/-- Behind an append of ranges to the call's own row. -/
theorem appL_step {w wr W0 w1 : World} {BB n m c : Nat} {A' : Option Addr} {L K : List R} {v' : Value} (hown : Own wr BB A' n c L) (hb : Below BB w wr) (hsz : BB ≤ wr.heap.size)
    (hW : Below wr.heap.size wr W0) (hK : K.length = m) (hown' : w1.ownsRow BB 74 2 v' (n+m) (cells L ++ cells K)) (hg : W0.grownBy w1 (Value.slice A' n c).ownBlock) :
    (∃ A'' c'', v' = .slice A'' (n+m) c'' ∧ Own w1 BB A'' (n+m) c'' (L ++ K)) ∧ Below BB w w1 ∧ Below BB wr w1 ∧ W0.heap.size ≤ w1.heap.size ∧ (∀ g o, wr.heap.size ≤ g → g < W0.heap.size → w1.cell? ⟨g, o, none⟩ = W0.cell? ⟨g, o, none⟩) := by
  have hr : ∀ k, (Value.slice A' n c).ownBlock = some k → BB ≤ k ∧ k < wr.heap.size := hown.2.lt
  refine ⟨?_, ?_, (hW.mono hsz).grown hg (by have := hW.size; omega) (fun k hk => (hr k hk).1), hg.size, ?_⟩
  · obtain ⟨A'', c'', rfl⟩ := ext_of_own hown'
    exact ⟨A'', c'', rfl, by simp [hown.1, hK], by rw [cells_append]; exact hown'⟩
  · exact (hb.trans (hW.mono hsz)).grown hg (by have := hW.size; omega) (fun k hk => (hr k hk).1)
  · intro g o h1 h2
    exact World.cell?_of_block (w := W0) (a := ⟨g, o, none⟩) (hg.block g h2 (fun e => by have := (hr g e.symm).2; omega))
theorem ret_int {k : IntKind} {a b : Int} (h : a = b) : Ending.returned (.int k a) = .returned (.int k b) := by rw [h]
theorem ret_bool {a b : Bool} (h : a = b) : Ending.returned (.bool a) = .returned (.bool b) := by rw [h]
theorem belowDrewN {B : Nat} {a w : World} (h : Below B a w) (n : Nat) : Below B a (w.drewN n) := ⟨h.os, h.tape, h.output, h.size, h.block⟩
theorem below_up {w w1 w2 : World} (h : Below w.heap.size w w1) (h' : Below w1.heap.size w1 w2) : Below w.heap.size w w2 := h.trans (h'.mono h.size)
end Go.Proofs.YtblibmalommdkaaGreat

/-
  Slices of numbers in memory: read, owned; slices of slices of ranges. No program in sight.
-/
namespace Go.Proofs.YtblibmalommdkaaGreat
open Go.RowKit
def icells (l : List Int) : List Value := l.map (Value.int .i64)
theorem icells_get (l : List Int) (k : Nat) : (icells l)[k]? = (l[k]?).map (Value.int .i64) := by simp [icells]
theorem icells_one (l : List Int) : ∀ u ∈ icells l, u.oneCell' = true := by
  intro u hu
  obtain ⟨x, _, rfl⟩ := List.mem_map.1 hu
  rfl
/-- A slice of numbers that reads as a list, nil let in. -/
def RdI (w : World) (B : Nat) (A : Option Addr) (l : List Int) : Prop :=
  ∀ k v, l[k]? = some v → ∃ b off, A = some ⟨b, off, none⟩ ∧ b < B ∧ w.cell? ⟨b, off + k, none⟩ = some (.int .i64 v)
theorem RdI.keep {w w' : World} {B : Nat} {A : Option Addr} {l : List Int} (h : RdI w B A l) (hk : ∀ p : Addr, p.block < B → w'.cell? p = w.cell? p) : RdI w' B A l := by
  intro k s hs
  obtain ⟨b, off, e, hb, h0⟩ := h k s hs
  exact ⟨b, off, e, hb, (hk _ hb).trans h0⟩
theorem RdI.below {w w' : World} {B B' : Nat} {A : Option Addr} {l : List Int} (h : RdI w B A l) (hb : Below B' w w') (hB : B ≤ B') : RdI w' B A l := h.keep fun _ hp => hb.cell (by omega)
theorem RdI.more {w : World} {B B' : Nat} {A : Option Addr} {l : List Int} (h : RdI w B A l) (hB : B ≤ B') : RdI w B' A l := by
  intro k s hs
  obtain ⟨b, off, e, hb, hh⟩ := h k s hs
  exact ⟨b, off, e, by omega, hh⟩
theorem RdI.up {w w' : World} {A : Option Addr} {l : List Int} (h : RdI w w.heap.size A l) (hb : Below w.heap.size w w') : RdI w' w'.heap.size A l := (h.below hb (Nat.le_refl _)).more hb.size
theorem RdI.alloc {w : World} {B : Nat} {A : Option Addr} {l : List Int} (h : RdI w B A l) (hB : B ≤ w.heap.size) (o : Obj) : RdI (w.alloc o) B A l := h.keep fun p hp => World.cell?_alloc_lt w o p (by omega)
theorem RdI.nil (w : World) (B : Nat) (A : Option Addr) : RdI w B A [] := fun k s hs => by simp at hs
theorem RdI.drewN {w : World} {B : Nat} {A : Option Addr} {l : List Int} (h : RdI w B A l) (n : Nat) : RdI (w.drewN n) B A l := h
/-- A piece of a row that is not empty. -/
theorem RdI.piece {w : World} {B b off : Nat} {l : List Int} (h : RdI w B (some ⟨b, off, none⟩) l) (i n : Nat) : RdI w B (some ⟨b, off + i, none⟩) ((l.drop i).take n) := by
  intro k v hv
  rw [List.getElem?_take] at hv
  split at hv
  · rw [List.getElem?_drop] at hv
    obtain ⟨b', off', e, hb, hc⟩ := h _ _ hv
    cases e
    exact ⟨b, off + i, rfl, hb, by rw [Nat.add_assoc]; exact hc⟩
  · cases hv
theorem RdI.cells {w : World} {B b off : Nat} {l : List Int} (h : RdI w B (some ⟨b, off, none⟩) l) : ∀ j u, (icells l)[j]? = some u → w.cell? ((⟨b, off, none⟩ : Addr).add j) = some u := by
  intro j u hu
  rw [icells_get] at hu
  obtain ⟨v, hv, rfl⟩ := Option.map_eq_some_iff.1 hu
  obtain ⟨b', off', e, hb, hc⟩ := h _ _ hv
  cases e
  have hadd : (⟨b, off, none⟩ : Addr).add j = ⟨b, off + j, none⟩ := by unfold Addr.add; split <;> simp_all
  rw [hadd]; exact hc
/-- The call's own row of numbers. -/
def OwnI (w : World) (base : Nat) (A : Option Addr) (n cap : Nat) (l : List Int) : Prop := l.length = n ∧ w.ownsRow base 3 1 (.slice A n cap) n (icells l)
theorem OwnI.rd {w : World} {base : Nat} {A : Option Addr} {n cap : Nat} {l : List Int} (h : OwnI w base A n cap l) : RdI w w.heap.size A l := by
  obtain ⟨hl, h⟩ := h
  intro k s hs
  have hk : k < l.length := (List.getElem?_eq_some_iff.1 hs).1
  have h2 := h.2
  rcases h2 with ⟨hv, hn⟩ | ⟨g, cap', cur, hv, hbg, hg, hr⟩
  · omega
  · injection hv with ha hn hc
    subst ha; subst hc
    have hlt : g < w.heap.size := (Array.getElem?_eq_some_iff.1 hg).1
    refine ⟨g, 0, rfl, hlt, ?_⟩
    rw [h.cellAt _ (by omega), icells_get, Nat.zero_add, hs]; rfl
theorem OwnI.nil (w : World) (base : Nat) : OwnI w base none 0 0 [] := ⟨rfl, World.ownsRow_nil _ _ _ _⟩
theorem OwnI.below {w w' : World} {base : Nat} {A : Option Addr} {n cap B : Nat} {l : List Int} (h : OwnI w base A n cap l) (hb : Below B w w') (hB : w.heap.size ≤ B) : OwnI w' base A n cap l :=
  ⟨h.1, h.2.kept (row := none) ⟨hb.os, hb.tape, hb.output, hb.size, fun k hk _ => hb.block k (by omega)⟩ (by cases A <;> simp [Value.ownBlock])⟩
theorem OwnI.alloc {w : World} {base : Nat} {A : Option Addr} {n cap : Nat} {l : List Int} (h : OwnI w base A n cap l) (o : Obj) : OwnI (w.alloc o) base A n cap l := ⟨h.1, h.2.alloc o⟩
theorem OwnI.drewN {w : World} {base : Nat} {A : Option Addr} {n cap : Nat} {l : List Int} (h : OwnI w base A n cap l) (k : Nat) : OwnI (w.drewN k) base A n cap l := h
theorem OwnI.mono {w : World} {base base' : Nat} {A : Option Addr} {n cap : Nat} {l : List Int} (h : OwnI w base A n cap l) (hB : base' ≤ base) : OwnI w base' A n cap l := by
  obtain ⟨h0, h1, h2⟩ := h
  refine ⟨h0, h1, ?_⟩
  rcases h2 with h2 | ⟨g, cap', cur, hv, hbg, hr⟩
  · exact .inl h2
  · exact .inr ⟨g, cap', cur, hv, by omega, hr⟩
theorem OwnI.cap {w : World} {base : Nat} {A : Option Addr} {n cap : Nat} {l : List Int} (h : OwnI w base A n cap l) : n ≤ cap ∧ cap ≤ maxLen := by
  obtain ⟨hl, h1, h2⟩ := h
  rcases h2 with ⟨hv, hn'⟩ | ⟨g, cap', cur, hv, hbg, hg, hnc, hcm, _⟩
  · injection hv with _ hn hc
    subst hc; omega
  · injection hv with ha _ hc
    subst hc
    exact ⟨hnc, hcm⟩
theorem ext_of_ownI {w' : World} {base : Nat} {v : Value} {n : Nat} {xs : List Value} (h : w'.ownsRow base 3 1 v n xs) : ∃ A cap, v = .slice A n cap := by
  rcases h.2 with ⟨hv, hn⟩ | ⟨g, cap', cur, hv, _⟩
  · subst hn; exact ⟨_, _, hv⟩
  · exact ⟨_, _, hv⟩
/-- Behind an append of numbers to the call's own row. -/
theorem appI_step {w wr W0 w1 : World} {BB n m c : Nat} {A' : Option Addr} {L K : List Int} {v' : Value} (hown : OwnI wr BB A' n c L) (hb : Below BB w wr) (hsz : BB ≤ wr.heap.size)
    (hW : Below wr.heap.size wr W0) (hK : K.length = m) (hown' : w1.ownsRow BB 3 1 v' (n+m) (icells L ++ icells K)) (hg : W0.grownBy w1 (Value.slice A' n c).ownBlock) :
    (∃ A'' c'', v' = .slice A'' (n+m) c'' ∧ OwnI w1 BB A'' (n+m) c'' (L ++ K)) ∧ Below BB w w1 ∧ Below BB wr w1 ∧ W0.heap.size ≤ w1.heap.size ∧ (∀ g o, wr.heap.size ≤ g → g < W0.heap.size → w1.cell? ⟨g, o, none⟩ = W0.cell? ⟨g, o, none⟩) := by
  have hr : ∀ k, (Value.slice A' n c).ownBlock = some k → BB ≤ k ∧ k < wr.heap.size := hown.2.lt
  refine ⟨?_, ?_, (hW.mono hsz).grown hg (by have := hW.size; omega) (fun k hk => (hr k hk).1), hg.size, ?_⟩
  · obtain ⟨A'', c'', rfl⟩ := ext_of_ownI hown'
    exact ⟨A'', c'', rfl, by simp [hown.1, hK], by simpa [icells] using hown'⟩
  · exact (hb.trans (hW.mono hsz)).grown hg (by have := hW.size; omega) (fun k hk => (hr k hk).1)
  · intro g o h1 h2
    exact World.cell?_of_block (w := W0) (a := ⟨g, o, none⟩) (hg.block g h2 (fun e => by have := (hr g e.symm).2; omega))
theorem newi_one (w : World) (v : Int) (g : Nat) (hg : g = w.heap.size) : ∀ j u, (icells [v])[j]? = some u → (w.alloc (.cells #[.int .i64 v] 3)).cell? ((⟨g, 0, none⟩ : Addr).add j) = some u := by
  subst hg
  intro j u hu
  have hadd : (⟨w.heap.size, 0, none⟩ : Addr).add j = ⟨w.heap.size, j, none⟩ := by unfold Addr.add; split <;> simp_all
  rw [hadd, cell_new]
  simpa [icells] using hu

theorem RdI.cells' {w : World} {B : Nat} {A : Option Addr} {l : List Int} (h : RdI w B A l) : ∀ ad, A = some ad → ∀ j u, (icells l)[j]? = some u → w.cell? (ad.add j) = some u := by
  intro ad hA j u hu
  rw [icells_get] at hu
  obtain ⟨v, hv, rfl⟩ := Option.map_eq_some_iff.1 hu
  obtain ⟨b', off', e, hb, hc⟩ := h _ _ hv
  rw [hA] at e
  cases e
  have hadd : (⟨b', off', none⟩ : Addr).add j = ⟨b', off' + j, none⟩ := by unfold Addr.add; split <;> simp_all
  rw [hadd]; exact hc
theorem OwnI.none {w : World} {base : Nat} {A : Option Addr} {n c : Nat} {l : List Int} (h : OwnI w base A n c l) : A = .none → n = 0 ∧ c = 0 := by
  intro hA
  rcases h.2.2 with ⟨hv, hn'⟩ | ⟨g, cap', cur, hv, _⟩
  · injection hv with ha hn hc
    exact ⟨hn', hc⟩
  · injection hv with ha _ _
    rw [hA] at ha; cases ha


/-- A slice of slices of ranges that reads as a list of lists. -/
def RdL (w : World) (B : Nat) (A : Option Addr) (ls : List (List R)) : Prop :=
  ∀ k l, ls[k]? = some l → ∃ b off Ak ck, A = some ⟨b, off, none⟩ ∧ b < B ∧ w.cell? ⟨b, off + k, none⟩ = some (.slice Ak l.length ck) ∧ Rd w B Ak l
theorem RdL.below {w w' : World} {B B' : Nat} {A : Option Addr} {l : List (List R)} (h : RdL w B A l) (hb : Below B' w w') (hB : B ≤ B') : RdL w' B A l := by
  intro k l hl
  obtain ⟨b, off, Ak, ck, e, hlt, hc, hr⟩ := h k l hl
  exact ⟨b, off, Ak, ck, e, hlt, (hb.cell (p := ⟨b, off + k, none⟩) (show b < B' by omega)).trans hc, hr.below hb hB⟩
end Go.Proofs.YtblibmalommdkaaGreat

/-
  What long, ranges.Has, the reference's Has and Same answer, for every list that reads as ranges.
-/
namespace Go.Proofs.YtblibmalommdkaaGreat
open Go.RowKit
open Classical in
noncomputable def hasB (l : List R) (n : Int) : Bool := decide (0 ≤ n ∧ In l n)
theorem hasB_iff {l : List R} {n : Int} : hasB l n = true ↔ 0 ≤ n ∧ In l n := by unfold hasB; simp
theorem hasB_of {l : List R} {n : Int} (h : 0 ≤ n ∧ In l n) : hasB l n = true := hasB_iff.2 h
theorem hasB_not {l : List R} {n : Int} (h : ¬ (0 ≤ n ∧ In l n)) : hasB l n = false := by unfold hasB; simpa using h
theorem has_stop {l : List R} {k : Nat} {s : R} (hs : l[k]? = some s) {n : Int} (h0 : 0 ≤ n) (h1 : s.1 ≤ n) (h2 : n < s.2) : hasB l n = true := hasB_of ⟨h0, s, List.mem_of_getElem? hs, h1, h2⟩
theorem has_step {l : List R} {k : Nat} {s : R} (hs : l[k]? = some s) {n : Int} (h : ¬ (0 ≤ n ∧ In (l.take k) n)) (h0 : ¬ (0 ≤ n ∧ s.1 ≤ n ∧ n < s.2)) : ¬ (0 ≤ n ∧ In (l.take (k+1)) n) := by
  rw [take_snoc l k s hs, in_append, in_one]
  rintro ⟨a, b | b⟩
  · exact h ⟨a, b⟩
  · exact h0 ⟨a, b.1, b.2⟩
set_option maxRecDepth 100000 in
theorem RefHas_any (A : Option Addr) (len cap : Nat) (n : Int) (w : World) (l : List R) (hlen : l.length = len) (hr : Rd w w.heap.size A l) (hm : len ≤ 9223372036854775807) :
    Calls Tryz.prog 89 #[.slice A len cap, .int .i64 n] w fun e w' => e = .returned (.bool (hasB l n)) ∧ w = w' := by
  have H := Lib.hid hlen; have HR := Lib.hid hr
  clear hlen hr
  go_enter Tryz.func89, Tryz.ntmps89
  go_wp2_with fail
  go_loopw [5] (fun i wr => ∃ k : Nat, k ≤ len ∧ i = .int .i64 k ∧ Hid (¬ (0 ≤ n ∧ In (l.take k) n)) ∧ w = wr) (fun i _ => len - (intOf i).toNat)
  case atStart => exact ⟨0, Nat.zero_le _, rfl, Lib.hid (fun h => in_nil n h.2), rfl⟩
  case round =>
    obtain ⟨k, hk, rfl, HN, rfl⟩ := hrel
    by_cases hlt : k < len
    · obtain ⟨s, hs⟩ := get_some l k (by have := H.out; omega)
      obtain ⟨b, off, rfl, hb', h0, h1⟩ := HR.out k s hs
      have HS := Lib.hid hs
      clear hs
      by_cases c0 : 0 ≤ n
      · by_cases c1 : s.1 ≤ n
        · by_cases c2 : n < s.2
          · have HT := Lib.hid (has_stop HS.out c0 c1 c2)
            go_wp2_with fail
            go_ret
            exact ⟨ret_bool HT.out.symm, rfl⟩
          · have HT := Lib.hid (has_step HS.out HN.out (fun h => c2 h.2.2))
            go_wp2_with fail
            go_roundw
            case rel => exact ⟨k+1, by omega, by go_num, HT, trivial⟩
            case measure => simp [intOf]; omega
        · have HT := Lib.hid (has_step HS.out HN.out (fun h => c1 h.2.1))
          go_wp2_with fail
          go_roundw
          case rel => exact ⟨k+1, by omega, by go_num, HT, trivial⟩
          case measure => simp [intOf]; omega
      · have HT := Lib.hid (has_step HS.out HN.out (fun h => c0 h.1))
        go_wp2_with fail
        go_roundw
        case rel => exact ⟨k+1, by omega, by go_num, HT, trivial⟩
        case measure => simp [intOf]; omega
    · obtain rfl : k = len := by omega
      clear hlt
      have e2 : l.take k = l := by rw [List.take_of_length_le (Nat.le_of_eq H.out)]
      have HT := Lib.hid (hasB_not (e2 ▸ HN.out))
      clear e2
      go_wp2_with fail
      go_ret
      exact ⟨ret_bool HT.out.symm, rfl⟩
end Go.Proofs.YtblibmalommdkaaGreat

/-
  What the reference's Same, Lent and Kept answer, and ranges.Right.
-/
namespace Go.Proofs.YtblibmalommdkaaGreat
open Go.RowKit
theorem info29 : (Tryz.prog.info? 74).map (fun i => (i.zero, i.size, i.bytes)) = some (some (.agg #[.int .i64 0, .int .i64 0]), 2, 16) := by kernel_rfl
theorem info3 : (Tryz.prog.info? 3).map (fun i => (i.zero, i.size, i.bytes)) = some (some (.int .i64 0), 1, 8) := by kernel_rfl
def mk2 : List R := [(77, 78), (79, 80)]
theorem Rd.left {w : World} {B : Nat} {A : Option Addr} {l m : List R} (h : Rd w B A (l ++ m)) : Rd w B A l := by
  intro k s hs
  exact h k s (by rw [List.getElem?_append_left ((List.getElem?_eq_some_iff.1 hs).1)]; exact hs)
theorem same_step {l m : List R} {k : Nat} {s t : R} (hs : l[k]? = some s) (ht : m[k]? = some t) (h : l.take k = m.take k) (e : s = t) : l.take (k+1) = m.take (k+1) := by
  rw [take_snoc l k s hs, take_snoc m k t ht, h, e]
theorem same_stop {l m : List R} {k : Nat} {s t : R} (hs : l[k]? = some s) (ht : m[k]? = some t) (e : s ≠ t) : decide (l = m) = false := by
  rw [decide_eq_false_iff_not]
  rintro rfl
  rw [hs] at ht
  exact e (Option.some.inj ht)
theorem pair_ne {s t : R} (h : s ≠ t) : (s.1 = t.1 ∧ (s.2 == t.2) = false) ∨ (s.1 == t.1) = false := by
  by_cases h1 : s.1 = t.1
  · exact .inl ⟨h1, by simp; exact fun h2 => h (Prod.ext h1 h2)⟩
  · exact .inr (by simpa using h1)
set_option maxRecDepth 100000 in
theorem Same_any (A : Option Addr) (len cap : Nat) (A2 : Option Addr) (len2 cap2 : Nat) (w : World) (l m : List R) (hlen : l.length = len) (hr : Rd w w.heap.size A l) (hm : len ≤ 9223372036854775807) (hlen2 : m.length = len2) (hr2 : Rd w w.heap.size A2 m) (hm2 : len2 ≤ 9223372036854775807) :
    Calls Tryz.prog 52 #[.slice A len cap, .slice A2 len2 cap2] w fun e w' => e = .returned (.bool (decide (l = m))) ∧ Below w.heap.size w w' := by
  have H := Lib.hid hlen; have HR := Lib.hid hr; have H2 := Lib.hid hlen2; have HR2 := Lib.hid hr2
  clear hlen hr hr2 hlen2
  by_cases hl : len = len2
  · subst hl
    go_enter Tryz.func52, Tryz.ntmps52
    go_wp2_with fail
    go_loopw [5] (fun i wr => ∃ k : Nat, k ≤ len ∧ i = .int .i64 k ∧ Hid (l.take k = m.take k) ∧ Below w.heap.size w wr) (fun i _ => len - (intOf i).toNat)
    case atStart => exact ⟨0, Nat.zero_le _, rfl, Lib.hid rfl, Below.refl _ _⟩
    case round =>
      obtain ⟨k, hk, rfl, HE, hb⟩ := hrel
      by_cases hlt : k < len
      · obtain ⟨s, hs⟩ := get_some l k (by have := H.out; omega)
        obtain ⟨t, ht⟩ := get_some m k (by have := H2.out; omega)
        obtain ⟨b, off, rfl, hb', h0, h1⟩ := HR.out.below hb (by omega) k s hs
        obtain ⟨b2, off2, rfl, hb2', g0, g1⟩ := HR2.out.below hb (by omega) k t ht
        by_cases e : s = t
        · have HS := Lib.hid (same_step hs ht HE.out e)
          subst e
          clear hs ht
          go_wp2_with fail
          go_quiet (fail)
          go_wp2_with fail
          go_roundw
          case rel => exact ⟨k+1, by omega, by go_num, HS, belowDrewN hb _⟩
          case measure => simp [intOf]; omega
        · have HS := Lib.hid (same_stop hs ht e)
          rcases pair_ne e with ⟨c1, c2⟩ | c1
          · rw [c1] at h0
            clear hs ht e c1
            go_wp2_with fail
            go_quiet (fail)
            go_wp2_with fail
            go_ret
            exact ⟨ret_bool HS.out.symm, belowDrewN hb _⟩
          · clear hs ht e
            go_wp2_with fail
            go_quiet (fail)
            go_wp2_with fail
            go_ret
            exact ⟨ret_bool HS.out.symm, belowDrewN hb _⟩
      · obtain rfl : k = len := by omega
        clear hlt
        have e2 : decide (l = m) = true := by
          have h := HE.out
          rw [List.take_of_length_le (Nat.le_of_eq H.out), List.take_of_length_le (Nat.le_of_eq H2.out)] at h
          simpa using h
        have HS := Lib.hid e2
        clear e2
        go_wp2_with fail
        go_ret
        exact ⟨ret_bool HS.out.symm, hb⟩
  · have e2 : decide (l = m) = false := by
      rw [decide_eq_false_iff_not]
      rintro rfl
      exact hl (H.out.symm.trans H2.out)
    have HS := Lib.hid e2
    clear e2
    have f1 : ((len : Int) == (len2 : Int)) = false := by simp; omega
    go_enter Tryz.func52, Tryz.ntmps52
    go_wp2_with fail
    go_ret
    exact ⟨ret_bool HS.out.symm, Below.refl _ _⟩
theorem new_two (w : World) (g : Nat) (hg : g = w.heap.size) : ∀ j u, (cells mk2)[j]? = some u → (w.alloc (.cells #[.int .i64 77, .int .i64 78, .int .i64 79, .int .i64 80] 74)).cell? ((⟨g, 0, none⟩ : Addr).add j) = some u := by
  subst hg
  intro j u hu
  have hadd : (⟨w.heap.size, 0, none⟩ : Addr).add j = ⟨w.heap.size, j, none⟩ := by unfold Addr.add; split <;> simp_all
  rw [hadd, cell_new]
  simpa [cells, mk2] using hu
open Classical in
/-- The ranges up to a place are the right list of their set. -/
noncomputable def rightB (l : List R) : Bool := decide (Right l)
theorem rightB_of {l : List R} (h : Right l) : rightB l = true := by unfold rightB; simpa using h
theorem rightB_not {l : List R} (h : ¬ Right l) : rightB l = false := by unfold rightB; simpa using h
theorem right_step {l : List R} {k : Nat} {s : R} (hs : l[k]? = some s) (h : Right (l.take k)) (h0 : lastTo (-1) (l.take k) < s.1) (h1 : s.1 < s.2) : Right (l.take (k+1)) ∧ lastTo (-1) (l.take (k+1)) = s.2 := by
  rw [take_snoc l k s hs]
  refine ⟨?_, lastTo_snoc _ _ _⟩
  unfold Right at *
  rw [right_append]
  exact ⟨h, h0, h1, trivial⟩
theorem right_stop {l : List R} {k : Nat} {s : R} (hs : l[k]? = some s) (h : ¬ (lastTo (-1) (l.take k) < s.1 ∧ s.1 < s.2)) : rightB l = false := by
  refine rightB_not fun hr => h ?_
  have e : l = l.take (k+1) ++ l.drop (k+1) := (List.take_append_drop ..).symm
  unfold Right at hr
  rw [e, right_append, take_snoc l k s hs, right_append] at hr
  exact ⟨hr.1.2.1, hr.1.2.2.1⟩
theorem lastTo_ge {l : List R} (h : Right l) : -1 ≤ lastTo (-1) l := by have := tot_le l (-1) h; omega
set_option maxRecDepth 100000 in
theorem Right_any (A : Option Addr) (len cap : Nat) (w : World) (l : List R) (hlen : l.length = len) (hr : Rd w w.heap.size A l) (hm : len ≤ 9223372036854775807) :
    Calls Tryz.prog 58 #[.slice A len cap] w fun e w' => e = .returned (.bool (rightB l)) ∧ Below w.heap.size w w' := by
  have H := Lib.hid hlen; have HR := Lib.hid hr
  clear hlen hr
  go_enter Tryz.func58, Tryz.ntmps58
  go_wp2_with fail
  go_loopw [3, 8] (fun t i wr => ∃ k : Nat, k ≤ len ∧ i = .int .i64 k ∧ t = .int .i64 (lastTo (-1) (l.take k)) ∧ Hid (Right (l.take k)) ∧ Below w.heap.size w wr) (fun _ i _ => len - (intOf i).toNat)
  case atStart => exact ⟨0, Nat.zero_le _, rfl, rfl, Lib.hid trivial, Below.refl _ _⟩
  case round =>
    obtain ⟨k, hk, rfl, rfl, HN, hb⟩ := hrel
    have hT := lastTo_ge HN.out
    by_cases hlt : k < len
    · obtain ⟨s, hs⟩ := get_some l k (by have := H.out; omega)
      obtain ⟨b, off, rfl, hb', h0, h1⟩ := HR.out.below hb (Nat.le_refl _) k s hs
      have HS := Lib.hid (@right_step l k s hs HN.out)
      have HX := Lib.hid (@right_stop l k s hs)
      clear hs
      generalize lastTo (-1) (l.take k) = T at *
      by_cases c0 : T < s.1
      · by_cases c1 : s.1 < s.2
        · have hs0 : ¬ s.1 < 0 := by omega
          obtain ⟨g0, g1⟩ := HS.out c0 c1
          have HG := Lib.hid g0
          have HG1 := Lib.hid g1
          clear g0 g1
          go_wp2_with fail
          go_roundw
          case rel => exact ⟨k+1, by omega, by go_num, by rw [HG1.out], HG, hb.alloc hb.size _⟩
          case measure => simp [intOf]; omega
        · have hs0 : ¬ s.1 < 0 := by omega
          have HT := Lib.hid (HX.out (fun h => c1 h.2))
          go_wp2_with fail
          go_ret
          exact ⟨ret_bool HT.out.symm, hb.alloc hb.size _⟩
      · have HT := Lib.hid (HX.out (fun h => c0 h.1))
        go_wp2_with fail
        go_ret
        exact ⟨ret_bool HT.out.symm, hb.alloc hb.size _⟩
    · obtain rfl : k = len := by omega
      clear hlt
      have e2 : l.take k = l := by rw [List.take_of_length_le (Nat.le_of_eq H.out)]
      have HT := Lib.hid (rightB_of (e2 ▸ HN.out))
      clear e2
      go_wp2_with fail
      go_ret
      exact ⟨ret_bool HT.out.symm, hb⟩
end Go.Proofs.YtblibmalommdkaaGreat
