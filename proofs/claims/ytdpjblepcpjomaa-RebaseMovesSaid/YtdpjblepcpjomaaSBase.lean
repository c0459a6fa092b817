/-
  Scraps as plain data; slices of scraps in memory. No program in sight.
-/
import Derived.WalkKit
import Derived.WalkSpells
import Derived.ProofKit
import Derived.Lib.Hide
import Derived.Laws.AppendOwnNone
import Derived.Deep.Draws
namespace Go.Proofs.Ytdpjblepcpjomaa.Sc
open Go.RowKit

structure S where
  src : Int
  at_ : Int
  len : Int

/-- The most bytes of a list. -/
def M : Int := 1099511627776
theorem M_eq : M = 1099511627776 := rfl

def tot : List S → Int
  | [] => 0
  | s :: l => s.len + tot l
/-- A scrap that may be. -/
def okS (s : S) : Prop := 0 ≤ s.src ∧ s.src ≤ 2 ∧ 0 ≤ s.at_ ∧ 1 ≤ s.len ∧ s.at_ + s.len ≤ 1099511627776
def Ok (l : List S) : Prop := ∀ s ∈ l, okS s
def MayP (l : List S) : Prop := Ok l ∧ tot l ≤ 1099511627776

theorem Ok.take {l : List S} (h : Ok l) (k : Nat) : Ok (l.take k) := fun s hs => h s (List.mem_of_mem_take hs)
theorem Ok.drop {l : List S} (h : Ok l) (k : Nat) : Ok (l.drop k) := fun s hs => h s (List.mem_of_mem_drop hs)
theorem Ok.append {l m : List S} (h : Ok l) (h' : Ok m) : Ok (l ++ m) := fun s hs => by
  rcases List.mem_append.1 hs with h1 | h1
  · exact h s h1
  · exact h' s h1
theorem Ok.tail {s : S} {l : List S} (h : Ok (s :: l)) : Ok l := fun t ht => h t (List.mem_cons_of_mem _ ht)
theorem Ok.at_ {l : List S} (h : Ok l) {k : Nat} {s : S} (hs : l[k]? = some s) : okS s := h s (List.mem_of_getElem? hs)

theorem tot_take_succ (l : List S) (k : Nat) (s : S) (h : l[k]? = some s) : tot (l.take (k+1)) = tot (l.take k) + s.len := by
  induction l generalizing k with
  | nil => simp at h
  | cons a l ih =>
    cases k with
    | zero => simp at h; subst h; simp [tot]
    | succ k => simp at h; simp [tot, ih k h]; omega
theorem tot_append (l m : List S) : tot (l ++ m) = tot l + tot m := by
  induction l with
  | nil => simp [tot]
  | cons a l ih => simp [tot, ih]; omega
theorem tot_nonneg (l : List S) (h : Ok l) : 0 ≤ tot l := by
  induction l with
  | nil => simp [tot]
  | cons a l ih =>
    have h1 := h a (by simp)
    have := ih h.tail
    unfold okS at h1
    simp only [tot]; omega
theorem tot_take_le (l : List S) (h : Ok l) (k : Nat) : tot (l.take k) ≤ tot l := by
  have h1 : tot l = tot (l.take k) + tot (l.drop k) := by rw [← tot_append, List.take_append_drop]
  have := tot_nonneg _ (h.drop k)
  omega
theorem len_le_tot (l : List S) (h : Ok l) : (l.length : Int) ≤ tot l := by
  induction l with
  | nil => simp [tot]
  | cons a l ih =>
    have h1 := h a (by simp)
    have := ih h.tail
    unfold okS at h1
    simp only [tot, List.length_cons]; omega
theorem take_snoc {α : Type} (l : List α) (k : Nat) (s : α) (h : l[k]? = some s) : l.take (k+1) = l.take k ++ [s] := by
  rw [List.take_add_one, h]; rfl
theorem get_some {α : Type} (l : List α) (k : Nat) (h : k < l.length) : ∃ s, l[k]? = some s := ⟨_, List.getElem?_eq_getElem h⟩

/-! ### The cells of a list -/
def cells (l : List S) : List Value := l.flatMap fun s => [.int .i64 s.src, .int .i64 s.at_, .int .i64 s.len]
theorem cells_len (l : List S) : (cells l).length = l.length * 3 := by
  induction l with
  | nil => rfl
  | cons a l ih => simp only [cells, List.flatMap_cons, List.length_append] at ih ⊢; simp [ih]; omega
theorem cells_append (l m : List S) : cells (l ++ m) = cells l ++ cells m := by simp [cells]
theorem cells_cons (s : S) (l : List S) : cells (s :: l) = .int .i64 s.src :: .int .i64 s.at_ :: .int .i64 s.len :: cells l := rfl
theorem cells_one (s : S) : cells [s] = [.int .i64 s.src, .int .i64 s.at_, .int .i64 s.len] := rfl
theorem cells_get (l : List S) (k : Nat) (s : S) (h : l[k]? = some s) :
    (cells l)[k*3]? = some (.int .i64 s.src) ∧ (cells l)[k*3+1]? = some (.int .i64 s.at_) ∧ (cells l)[k*3+2]? = some (.int .i64 s.len) := by
  induction l generalizing k with
  | nil => simp at h
  | cons a l ih =>
    cases k with
    | zero => simp at h; subst h; simp [cells_cons]
    | succ k =>
      simp at h
      obtain ⟨h0, h1, h2⟩ := ih k h
      rw [cells_cons]
      have e : (k+1)*3 = k*3+1+1+1 := by omega
      rw [e]
      refine ⟨?_, ?_, ?_⟩
      · simpa using h0
      · simpa using h1
      · simpa using h2
theorem cells_one_cell (l : List S) : ∀ u ∈ cells l, u.oneCell' = true := by
  intro u hu
  unfold cells at hu
  obtain ⟨s, _, h⟩ := List.mem_flatMap.1 hu
  simp at h
  rcases h with rfl | rfl | rfl <;> rfl
theorem cells_setlen (l : List S) (s t : S) : cells (l ++ [{ s with len := t.len }]) = (cells (l ++ [s])).set (l.length * 3 + 2) (.int .i64 t.len) := by
  rw [cells_append, cells_append, List.set_append_right _ _ (by rw [cells_len]; omega), cells_len]
  have e : l.length * 3 + 2 - l.length * 3 = 2 := by omega
  rw [e]; rfl

/-! ### A slice that reads as a list, nil let in -/
def Rd (w : World) (B : Nat) (A : Option Addr) (l : List S) : Prop :=
  ∀ k s, l[k]? = some s → ∃ b off, A = some ⟨b, off, none⟩ ∧ b < B ∧ w.cell? ⟨b, off + k * 3, none⟩ = some (.int .i64 s.src) ∧ w.cell? ⟨b, off + k * 3 + 1, none⟩ = some (.int .i64 s.at_) ∧ w.cell? ⟨b, off + k * 3 + 2, none⟩ = some (.int .i64 s.len)

theorem Rd.keep {w w' : World} {B : Nat} {A : Option Addr} {l : List S} (h : Rd w B A l) (hk : ∀ p : Addr, p.block < B → w'.cell? p = w.cell? p) : Rd w' B A l := by
  intro k s hs
  obtain ⟨b, off, e, hb, h0, h1, h2⟩ := h k s hs
  exact ⟨b, off, e, hb, (hk _ hb).trans h0, (hk _ hb).trans h1, (hk _ hb).trans h2⟩
theorem Rd.below {w w' : World} {B B' : Nat} {A : Option Addr} {l : List S} (h : Rd w B A l) (hb : Below B' w w') (hB : B ≤ B') : Rd w' B A l := h.keep fun _ hp => hb.cell (by omega)
theorem Rd.more {w : World} {B B' : Nat} {A : Option Addr} {l : List S} (h : Rd w B A l) (hB : B ≤ B') : Rd w B' A l := by
  intro k s hs
  obtain ⟨b, off, e, hb, hh⟩ := h k s hs
  exact ⟨b, off, e, by omega, hh⟩
theorem Rd.alloc {w : World} {B : Nat} {A : Option Addr} {l : List S} (h : Rd w B A l) (hB : B ≤ w.heap.size) (o : Obj) : Rd (w.alloc o) B A l := h.keep fun p hp => World.cell?_alloc_lt w o p (by omega)
theorem Rd.nil (w : World) (B : Nat) (A : Option Addr) : Rd w B A [] := fun k s hs => by simp at hs
theorem Rd.drew {w : World} {B : Nat} {A : Option Addr} {l : List S} (h : Rd w B A l) : Rd w.drew B A l := h
theorem Rd.drewN {w : World} {B : Nat} {A : Option Addr} {l : List S} (h : Rd w B A l) (n : Nat) : Rd (w.drewN n) B A l := h

/-- The call's own row of scraps. -/
def Own (w : World) (base : Nat) (A : Option Addr) (n cap : Nat) (l : List S) : Prop := l.length = n ∧ w.ownsRow base 56 3 (.slice A n cap) n (cells l)
theorem Own.rd {w : World} {base : Nat} {A : Option Addr} {n cap : Nat} {l : List S} (h : Own w base A n cap l) : Rd w w.heap.size A l := by
  obtain ⟨hl, h⟩ := h
  intro k s hs
  have hk : k < l.length := (List.getElem?_eq_some_iff.1 hs).1
  have h2 := h.2
  rcases h2 with ⟨hv, hn⟩ | ⟨g, cap', cur, hv, hbg, hg, hr⟩
  · omega
  · injection hv with ha hn hc
    subst ha; subst hc
    obtain ⟨c0, c1, c2⟩ := cells_get l k s hs
    have hlt : g < w.heap.size := (Array.getElem?_eq_some_iff.1 hg).1
    refine ⟨g, 0, rfl, hlt, ?_, ?_, ?_⟩
    · rw [h.cellAt _ (by omega)]; simpa using c0
    · rw [h.cellAt _ (by omega)]; simpa using c1
    · rw [h.cellAt _ (by omega)]; simpa using c2
theorem Own.nil (w : World) (base : Nat) : Own w base none 0 0 [] := ⟨rfl, World.ownsRow_nil _ _ _ _⟩
theorem Own.below {w w' : World} {base : Nat} {A : Option Addr} {n cap B : Nat} {l : List S} (h : Own w base A n cap l) (hb : Below B w w') (hB : w.heap.size ≤ B) : Own w' base A n cap l :=
  ⟨h.1, h.2.kept (row := none) ⟨hb.os, hb.tape, hb.output, hb.size, fun k hk _ => hb.block k (by omega)⟩ (by cases A <;> simp [Value.ownBlock])⟩
theorem Own.alloc {w : World} {base : Nat} {A : Option Addr} {n cap : Nat} {l : List S} (h : Own w base A n cap l) (o : Obj) : Own (w.alloc o) base A n cap l := ⟨h.1, h.2.alloc o⟩
theorem Own.drew {w : World} {base : Nat} {A : Option Addr} {n cap : Nat} {l : List S} (h : Own w base A n cap l) : Own w.drew base A n cap l := h
theorem Own.drewN {w : World} {base : Nat} {A : Option Addr} {n cap : Nat} {l : List S} (h : Own w base A n cap l) (k : Nat) : Own (w.drewN k) base A n cap l := h
theorem Own.mono {w : World} {base base' : Nat} {A : Option Addr} {n cap : Nat} {l : List S} (h : Own w base A n cap l) (hB : base' ≤ base) : Own w base' A n cap l := by
  obtain ⟨h0, h1, h2⟩ := h
  refine ⟨h0, h1, ?_⟩
  rcases h2 with h2 | ⟨g, cap', cur, hv, hbg, hr⟩
  · exact .inl h2
  · exact .inr ⟨g, cap', cur, hv, by omega, hr⟩
/-- A row that holds something lies at the head of a block of the call's own. -/
theorem Own.form {w : World} {base : Nat} {A : Option Addr} {n cap : Nat} {l : List S} (h : Own w base A n cap l) (hn : 0 < n) : ∃ g, A = some ⟨g, 0, none⟩ ∧ base ≤ g ∧ g < w.heap.size ∧ n ≤ cap ∧ cap ≤ maxLen := by
  obtain ⟨hl, h1, h2⟩ := h
  rcases h2 with ⟨hv, hn'⟩ | ⟨g, cap', cur, hv, hbg, hg, hnc, hcm, _⟩
  · omega
  · injection hv with ha _ hc
    subst hc
    exact ⟨g, ha, hbg, (Array.getElem?_eq_some_iff.1 hg).1, hnc, hcm⟩
theorem Own.cap {w : World} {base : Nat} {A : Option Addr} {n cap : Nat} {l : List S} (h : Own w base A n cap l) : n ≤ cap ∧ cap ≤ maxLen := by
  obtain ⟨hl, h1, h2⟩ := h
  rcases h2 with ⟨hv, hn'⟩ | ⟨g, cap', cur, hv, hbg, hg, hnc, hcm, _⟩
  · injection hv with _ hn hc
    subst hc; omega
  · injection hv with ha _ hc
    subst hc
    exact ⟨hnc, hcm⟩
theorem Own.nilOr {w : World} {base : Nat} {A : Option Addr} {n cap : Nat} {l : List S} (h : Own w base A n cap l) : (A = none ∧ n = 0 ∧ cap = 0) ∨ ∃ g, A = some ⟨g, 0, none⟩ ∧ base ≤ g ∧ g < w.heap.size := by
  obtain ⟨hl, h1, h2⟩ := h
  rcases h2 with ⟨hv, hn'⟩ | ⟨g, cap', cur, hv, hbg, hg, hnc, hcm, _⟩
  · injection hv with ha hn hc
    exact .inl ⟨ha, hn', hc⟩
  · injection hv with ha _ hc
    exact .inr ⟨g, ha, hbg, (Array.getElem?_eq_some_iff.1 hg).1⟩
/-- The cells of the last scrap of a row. -/
theorem Own.last {w : World} {base : Nat} {A : Option Addr} {n cap : Nat} {l : List S} {t : S} (h : Own w base A (n+1) cap (l ++ [t])) :
    ∃ g, A = some ⟨g, 0, none⟩ ∧ base ≤ g ∧ g < w.heap.size ∧ w.cell? ⟨g, n * 3, none⟩ = some (.int .i64 t.src) ∧ w.cell? ⟨g, n * 3 + 1, none⟩ = some (.int .i64 t.at_) ∧ w.cell? ⟨g, n * 3 + 2, none⟩ = some (.int .i64 t.len) ∧ w.frozen? ⟨g, n * 3 + 2, none⟩ = false := by
  have hl := h.1
  have hn : l.length = n := by simpa using hl
  obtain ⟨g, rfl, hb, hg, _⟩ := h.form (by omega)
  have hs : (l ++ [t])[n]? = some t := by rw [List.getElem?_append_right (by omega)]; simp [hn]
  obtain ⟨c0, c1, c2⟩ := cells_get _ n t hs
  refine ⟨g, rfl, hb, hg, ?_, ?_, ?_, ?_⟩
  · rw [h.2.cellAt _ (by omega)]; exact c0
  · rw [h.2.cellAt _ (by omega)]; exact c1
  · rw [h.2.cellAt _ (by omega)]; exact c2
  · exact h.2.frozenAt _
/-- A store into the last scrap's length. -/
theorem Own.setLast {w : World} {base g n cap : Nat} {l : List S} {t : S} (h : Own w base (some ⟨g, 0, none⟩) (n+1) cap (l ++ [t])) (x : Int) :
    Own (w.setCell ⟨g, n * 3 + 2, none⟩ (.int .i64 x)) base (some ⟨g, 0, none⟩) (n+1) cap (l ++ [{ t with len := x }]) := by
  have hn : l.length = n := by simpa using h.1
  have h1 := (h.2.stored (n * 3 + 2) (.int .i64 x)).1
  refine ⟨by simp [hn], ?_⟩
  have e := cells_setlen l t ⟨0, 0, x⟩
  rw [hn] at e
  rw [← e] at h1
  exact h1
theorem ext_of_own {w' : World} {base : Nat} {v : Value} {n : Nat} {xs : List Value} (h : w'.ownsRow base 56 3 v n xs) : ∃ A cap, v = .slice A n cap := by
  rcases h.2 with ⟨hv, hn⟩ | ⟨g, cap', cur, hv, _⟩
  · subst hn; exact ⟨_, _, hv⟩
  · exact ⟨_, _, hv⟩
/-- What holds below the new blocks alone: a result's row is read in every later world. -/
theorem Own.rdlt {w : World} {base : Nat} {A : Option Addr} {n cap : Nat} {l : List S} (h : Own w base A n cap l) {w' : World} (hb : Below w.heap.size w w') : Rd w' w'.heap.size A l :=
  (h.rd.below hb (Nat.le_refl _)).more hb.size
theorem one_new (w : World) (s : S) : ∀ j u, (cells [s])[j]? = some u → (w.alloc (.cells #[.int .i64 s.src, .int .i64 s.at_, .int .i64 s.len] 56)).cell? ((⟨w.heap.size, 0, none⟩ : Addr).add j) = some u := by
  intro j u hu
  have hadd : (⟨w.heap.size, 0, none⟩ : Addr).add j = ⟨w.heap.size, j, none⟩ := by unfold Addr.add; split <;> simp_all
  rw [hadd, cell_of_row _ _ j _ 56 (0, 0) (heap_alloc_new w _)]
  simpa [cells_one] using hu
theorem new_one (w : World) (s : S) (g : Nat) (hg : g = w.heap.size) : ∀ j u, (cells [s])[j]? = some u → (w.alloc (.cells #[.int .i64 s.src, .int .i64 s.at_, .int .i64 s.len] 56)).cell? ((⟨g, 0, none⟩ : Addr).add j) = some u := by
  subst hg; exact one_new w s
/-- Behind an append of one scrap to the call's own row, in a round that has laid a block of its own. -/
theorem app_step {w wr W0 w1 : World} {BB n c : Nat} {A' : Option Addr} {L : List S} {s' : S} {v' : Value} (hown : Own wr BB A' n c L) (hb : Below BB w wr) (hsz : BB ≤ wr.heap.size)
    (hW : Below wr.heap.size wr W0) (hown' : w1.ownsRow BB 56 3 v' (n+1) (cells L ++ cells [s'])) (hg : W0.grownBy w1 (Value.slice A' n c).ownBlock) :
    (∃ A'' c'', v' = .slice A'' (n+1) c'' ∧ Own w1 BB A'' (n+1) c'' (L ++ [s'])) ∧ Below BB w w1 ∧ Below BB wr w1 ∧ W0.heap.size ≤ w1.heap.size ∧ (∀ g o, wr.heap.size ≤ g → g < W0.heap.size → w1.cell? ⟨g, o, none⟩ = W0.cell? ⟨g, o, none⟩) := by
  have hr : ∀ k, (Value.slice A' n c).ownBlock = some k → BB ≤ k ∧ k < wr.heap.size := hown.2.lt
  refine ⟨?_, ?_, (hW.mono hsz).grown hg (by have := hW.size; omega) (fun k hk => (hr k hk).1), hg.size, ?_⟩
  · obtain ⟨A'', c'', rfl⟩ := ext_of_own hown'
    exact ⟨A'', c'', rfl, by simp [hown.1], by rw [cells_append]; exact hown'⟩
  · exact (hb.trans (hW.mono hsz)).grown hg (by have := hW.size; omega) (fun k hk => (hr k hk).1)
  · intro g o h1 h2
    exact World.cell?_of_block (w := W0) (a := ⟨g, o, none⟩) (hg.block g h2 (fun e => by have := (hr g e.symm).2; omega))
theorem cell_new (w : World) (cs : Array Value) (t : TypeId) (j : Nat) : (w.alloc (.cells cs t)).cell? ⟨w.heap.size, j, none⟩ = cs[j]? := cell_of_row _ _ j cs t (0, 0) (heap_alloc_new w _)
theorem cell_new2 (w : World) (cs : Array Value) (t : TypeId) (nq : Nat) (o2 : Obj) (j : Nat) : (((w.alloc (.cells cs t)).drewN nq).alloc o2).cell? ⟨w.heap.size, j, none⟩ = cs[j]? := by
  rw [World.cell?_alloc_lt _ _ _ (by simp)]; exact cell_new w cs t j
theorem cell_new1 (w : World) (cs : Array Value) (t : TypeId) (o2 : Obj) (j : Nat) : ((w.alloc (.cells cs t)).alloc o2).cell? ⟨w.heap.size, j, none⟩ = cs[j]? := by
  rw [World.cell?_alloc_lt _ _ _ (by simp)]; exact cell_new w cs t j
theorem bcell {W w1 : World} {B : Nat} (hb : Below B W w1) : (∀ b o, b < B → w1.cell? ⟨b, o, none⟩ = W.cell? ⟨b, o, none⟩) ∧ (∀ b o, b < B → w1.frozen? ⟨b, o, none⟩ = W.frozen? ⟨b, o, none⟩) :=
  ⟨fun b o h => hb.cell (p := ⟨b, o, none⟩) h, fun b o h => hb.frozen (p := ⟨b, o, none⟩) h⟩
theorem ret_int {k : IntKind} {a b : Int} (h : a = b) : Ending.returned (.int k a) = .returned (.int k b) := by rw [h]
theorem ret_bool {a b : Bool} (h : a = b) : Ending.returned (.bool a) = .returned (.bool b) := by rw [h]
theorem belowDrewN {B : Nat} {a w : World} (h : Below B a w) (n : Nat) : Below B a (w.drewN n) := ⟨h.os, h.tape, h.output, h.size, h.block⟩
end Go.Proofs.Ytdpjblepcpjomaa.Sc
