/-
  SA: texts of one kind, one behind the other.
-/
import Derived.WalkKit
import Derived.WalkSpells
import Derived.ProofKit
import Derived.Lib.Hide
import Derived.Laws.AppendOwnNone
import Derived.Deep.Draws
/-
  Scraps as plain data; slices of scraps in memory. No program in sight.
-/
namespace Go.Proofs.YtblibmalommdkaaGreat.Sc
open Go.RowKit

structure S where
  src : Int
  at_ : Int
  len : Int

/-- The most bytes of a list. -/
def M : Int := 1099511627776
theorem M_eq : M = 1099511627776 := rfl

def tot : List S → Int
  | [] => 0
  | s :: l => s.len + tot l
/-- A scrap that may be. -/
def okS (s : S) : Prop := 0 ≤ s.src ∧ s.src ≤ 2 ∧ 0 ≤ s.at_ ∧ 1 ≤ s.len ∧ s.at_ + s.len ≤ 1099511627776
def Ok (l : List S) : Prop := ∀ s ∈ l, okS s
def MayP (l : List S) : Prop := Ok l ∧ tot l ≤ 1099511627776

theorem Ok.take {l : List S} (h : Ok l) (k : Nat) : Ok (l.take k) := fun s hs => h s (List.mem_of_mem_take hs)
theorem Ok.drop {l : List S} (h : Ok l) (k : Nat) : Ok (l.drop k) := fun s hs => h s (List.mem_of_mem_drop hs)
theorem Ok.append {l m : List S} (h : Ok l) (h' : Ok m) : Ok (l ++ m) := fun s hs => by
  rcases List.mem_append.1 hs with h1 | h1
  · exact h s h1
  · exact h' s h1
theorem Ok.tail {s : S} {l : List S} (h : Ok (s :: l)) : Ok l := fun t ht => h t (List.mem_cons_of_mem _ ht)
theorem Ok.at_ {l : List S} (h : Ok l) {k : Nat} {s : S} (hs : l[k]? = some s) : okS s := h s (List.mem_of_getElem? hs)

theorem tot_take_succ (l : List S) (k : Nat) (s : S) (h : l[k]? = some s) : tot (l.take (k+1)) = tot (l.take k) + s.len := by
  induction l generalizing k with
  | nil => simp at h
  | cons a l ih =>
    cases k with
    | zero => simp at h; subst h; simp [tot]
    | succ k => simp at h; simp [tot, ih k h]; omega
theorem tot_append (l m : List S) : tot (l ++ m) = tot l + tot m := by
  induction l with
  | nil => simp [tot]
  | cons a l ih => simp [tot, ih]; omega
theorem tot_nonneg (l : List S) (h : Ok l) : 0 ≤ tot l := by
  induction l with
  | nil => simp [tot]
  | cons a l ih =>
    have h1 := h a (by simp)
    have := ih h.tail
    unfold okS at h1
    simp only [tot]; omega
theorem tot_take_le (l : List S) (h : Ok l) (k : Nat) : tot (l.take k) ≤ tot l := by
  have h1 : tot l = tot (l.take k) + tot (l.drop k) := by rw [← tot_append, List.take_append_drop]
  have := tot_nonneg _ (h.drop k)
  omega
theorem len_le_tot (l : List S) (h : Ok l) : (l.length : Int) ≤ tot l := by
  induction l with
  | nil => simp [tot]
  | cons a l ih =>
    have h1 := h a (by simp)
    have := ih h.tail
    unfold okS at h1
    simp only [tot, List.length_cons]; omega
theorem take_snoc {α : Type} (l : List α) (k : Nat) (s : α) (h : l[k]? = some s) : l.take (k+1) = l.take k ++ [s] := by
  rw [List.take_add_one, h]; rfl
theorem get_some {α : Type} (l : List α) (k : Nat) (h : k < l.length) : ∃ s, l[k]? = some s := ⟨_, List.getElem?_eq_getElem h⟩

/-! ### The cells of a list -/
def cells (l : List S) : List Value := l.flatMap fun s => [.int .i64 s.src, .int .i64 s.at_, .int .i64 s.len]
theorem cells_len (l : List S) : (cells l).length = l.length * 3 := by
  induction l with
  | nil => rfl
  | cons a l ih => simp only [cells, List.flatMap_cons, List.length_append] at ih ⊢; simp [ih]; omega
theorem cells_append (l m : List S) : cells (l ++ m) = cells l ++ cells m := by simp [cells]
theorem cells_cons (s : S) (l : List S) : cells (s :: l) = .int .i64 s.src :: .int .i64 s.at_ :: .int .i64 s.len :: cells l := rfl
theorem cells_one (s : S) : cells [s] = [.int .i64 s.src, .int .i64 s.at_, .int .i64 s.len] := rfl
theorem cells_get (l : List S) (k : Nat) (s : S) (h : l[k]? = some s) :
    (cells l)[k*3]? = some (.int .i64 s.src) ∧ (cells l)[k*3+1]? = some (.int .i64 s.at_) ∧ (cells l)[k*3+2]? = some (.int .i64 s.len) := by
  induction l generalizing k with
  | nil => simp at h
  | cons a l ih =>
    cases k with
    | zero => simp at h; subst h; simp [cells_cons]
    | succ k =>
      simp at h
      obtain ⟨h0, h1, h2⟩ := ih k h
      rw [cells_cons]
      have e : (k+1)*3 = k*3+1+1+1 := by omega
      rw [e]
      refine ⟨?_, ?_, ?_⟩
      · simpa using h0
      · simpa using h1
      · simpa using h2
theorem cells_one_cell (l : List S) : ∀ u ∈ cells l, u.oneCell' = true := by
  intro u hu
  unfold cells at hu
  obtain ⟨s, _, h⟩ := List.mem_flatMap.1 hu
  simp at h
  rcases h with rfl | rfl | rfl <;> rfl
theorem cells_setlen (l : List S) (s t : S) : cells (l ++ [{ s with len := t.len }]) = (cells (l ++ [s])).set (l.length * 3 + 2) (.int .i64 t.len) := by
  rw [cells_append, cells_append, List.set_append_right _ _ (by rw [cells_len]; omega), cells_len]
  have e : l.length * 3 + 2 - l.length * 3 = 2 := by omega
  rw [e]; rfl

/-! ### A slice that reads as a list, nil let in -/
def Rd (w : World) (B : Nat) (A : Option Addr) (l : List S) : Prop :=
  ∀ k s, l[k]? = some s → ∃ b off, A = some ⟨b, off, none⟩ ∧ b < B ∧ w.cell? ⟨b, off + k * 3, none⟩ = some (.int .i64 s.src) ∧ w.cell? ⟨b, off + k * 3 + 1, none⟩ = some (.int .i64 s.at_) ∧ w.cell? ⟨b, off + k * 3 + 2, none⟩ = some (.int .i64 s.len)

theorem Rd.keep {w w' : World} {B : Nat} {A : Option Addr} {l : List S} (h : Rd w B A l) (hk : ∀ p : Addr, p.block < B → w'.cell? p = w.cell? p) : Rd w' B A l := by
  intro k s hs
  obtain ⟨b, off, e, hb, h0, h1, h2⟩ := h k s hs
  exact ⟨b, off, e, hb, (hk _ hb).trans h0, (hk _ hb).trans h1, (hk _ hb).trans h2⟩
theorem Rd.below {w w' : World} {B B' : Nat} {A : Option Addr} {l : List S} (h : Rd w B A l) (hb : Below B' w w') (hB : B ≤ B') : Rd w' B A l := h.keep fun _ hp => hb.cell (by omega)
theorem Rd.more {w : World} {B B' : Nat} {A : Option Addr} {l : List S} (h : Rd w B A l) (hB : B ≤ B') : Rd w B' A l := by
  intro k s hs
  obtain ⟨b, off, e, hb, hh⟩ := h k s hs
  exact ⟨b, off, e, by omega, hh⟩
theorem Rd.alloc {w : World} {B : Nat} {A : Option Addr} {l : List S} (h : Rd w B A l) (hB : B ≤ w.heap.size) (o : Obj) : Rd (w.alloc o) B A l := h.keep fun p hp => World.cell?_alloc_lt w o p (by omega)
theorem Rd.nil (w : World) (B : Nat) (A : Option Addr) : Rd w B A [] := fun k s hs => by simp at hs
theorem Rd.drew {w : World} {B : Nat} {A : Option Addr} {l : List S} (h : Rd w B A l) : Rd w.drew B A l := h
theorem Rd.drewN {w : World} {B : Nat} {A : Option Addr} {l : List S} (h : Rd w B A l) (n : Nat) : Rd (w.drewN n) B A l := h

/-- The call's own row of scraps. -/
def Own (w : World) (base : Nat) (A : Option Addr) (n cap : Nat) (l : List S) : Prop := l.length = n ∧ w.ownsRow base 80 3 (.slice A n cap) n (cells l)
theorem Own.rd {w : World} {base : Nat} {A : Option Addr} {n cap : Nat} {l : List S} (h : Own w base A n cap l) : Rd w w.heap.size A l := by
  obtain ⟨hl, h⟩ := h
  intro k s hs
  have hk : k < l.length := (List.getElem?_eq_some_iff.1 hs).1
  have h2 := h.2
  rcases h2 with ⟨hv, hn⟩ | ⟨g, cap', cur, hv, hbg, hg, hr⟩
  · omega
  · injection hv with ha hn hc
    subst ha; subst hc
    obtain ⟨c0, c1, c2⟩ := cells_get l k s hs
    have hlt : g < w.heap.size := (Array.getElem?_eq_some_iff.1 hg).1
    refine ⟨g, 0, rfl, hlt, ?_, ?_, ?_⟩
    · rw [h.cellAt _ (by omega)]; simpa using c0
    · rw [h.cellAt _ (by omega)]; simpa using c1
    · rw [h.cellAt _ (by omega)]; simpa using c2
theorem Own.nil (w : World) (base : Nat) : Own w base none 0 0 [] := ⟨rfl, World.ownsRow_nil _ _ _ _⟩
theorem Own.below {w w' : World} {base : Nat} {A : Option Addr} {n cap B : Nat} {l : List S} (h : Own w base A n cap l) (hb : Below B w w') (hB : w.heap.size ≤ B) : Own w' base A n cap l :=
  ⟨h.1, h.2.kept (row := none) ⟨hb.os, hb.tape, hb.output, hb.size, fun k hk _ => hb.block k (by omega)⟩ (by cases A <;> simp [Value.ownBlock])⟩
theorem Own.alloc {w : World} {base : Nat} {A : Option Addr} {n cap : Nat} {l : List S} (h : Own w base A n cap l) (o : Obj) : Own (w.alloc o) base A n cap l := ⟨h.1, h.2.alloc o⟩
theorem Own.drew {w : World} {base : Nat} {A : Option Addr} {n cap : Nat} {l : List S} (h : Own w base A n cap l) : Own w.drew base A n cap l := h
theorem Own.drewN {w : World} {base : Nat} {A : Option Addr} {n cap : Nat} {l : List S} (h : Own w base A n cap l) (k : Nat) : Own (w.drewN k) base A n cap l := h
theorem Own.mono {w : World} {base base' : Nat} {A : Option Addr} {n cap : Nat} {l : List S} (h : Own w base A n cap l) (hB : base' ≤ base) : Own w base' A n cap l := by
  obtain ⟨h0, h1, h2⟩ := h
  refine ⟨h0, h1, ?_⟩
  rcases h2 with h2 | ⟨g, cap', cur, hv, hbg, hr⟩
  · exact .inl h2
  · exact .inr ⟨g, cap', cur, hv, by omega, hr⟩
/-- A row that holds something lies at the head of a block of the call's own. -/
theorem Own.form {w : World} {base : Nat} {A : Option Addr} {n cap : Nat} {l : List S} (h : Own w base A n cap l) (hn : 0 < n) : ∃ g, A = some ⟨g, 0, none⟩ ∧ base ≤ g ∧ g < w.heap.size ∧ n ≤ cap ∧ cap ≤ maxLen := by
  obtain ⟨hl, h1, h2⟩ := h
  rcases h2 with ⟨hv, hn'⟩ | ⟨g, cap', cur, hv, hbg, hg, hnc, hcm, _⟩
  · omega
  · injection hv with ha _ hc
    subst hc
    exact ⟨g, ha, hbg, (Array.getElem?_eq_some_iff.1 hg).1, hnc, hcm⟩
theorem Own.cap {w : World} {base : Nat} {A : Option Addr} {n cap : Nat} {l : List S} (h : Own w base A n cap l) : n ≤ cap ∧ cap ≤ maxLen := by
  obtain ⟨hl, h1, h2⟩ := h
  rcases h2 with ⟨hv, hn'⟩ | ⟨g, cap', cur, hv, hbg, hg, hnc, hcm, _⟩
  · injection hv with _ hn hc
    subst hc; omega
  · injection hv with ha _ hc
    subst hc
    exact ⟨hnc, hcm⟩
theorem Own.nilOr {w : World} {base : Nat} {A : Option Addr} {n cap : Nat} {l : List S} (h : Own w base A n cap l) : (A = none ∧ n = 0 ∧ cap = 0) ∨ ∃ g, A = some ⟨g, 0, none⟩ ∧ base ≤ g ∧ g < w.heap.size := by
  obtain ⟨hl, h1, h2⟩ := h
  rcases h2 with ⟨hv, hn'⟩ | ⟨g, cap', cur, hv, hbg, hg, hnc, hcm, _⟩
  · injection hv with ha hn hc
    exact .inl ⟨ha, hn', hc⟩
  · injection hv with ha _ hc
    exact .inr ⟨g, ha, hbg, (Array.getElem?_eq_some_iff.1 hg).1⟩
/-- The cells of the last scrap of a row. -/
theorem Own.last {w : World} {base : Nat} {A : Option Addr} {n cap : Nat} {l : List S} {t : S} (h : Own w base A (n+1) cap (l ++ [t])) :
    ∃ g, A = some ⟨g, 0, none⟩ ∧ base ≤ g ∧ g < w.heap.size ∧ w.cell? ⟨g, n * 3, none⟩ = some (.int .i64 t.src) ∧ w.cell? ⟨g, n * 3 + 1, none⟩ = some (.int .i64 t.at_) ∧ w.cell? ⟨g, n * 3 + 2, none⟩ = some (.int .i64 t.len) ∧ w.frozen? ⟨g, n * 3 + 2, none⟩ = false := by
  have hl := h.1
  have hn : l.length = n := by simpa using hl
  obtain ⟨g, rfl, hb, hg, _⟩ := h.form (by omega)
  have hs : (l ++ [t])[n]? = some t := by rw [List.getElem?_append_right (by omega)]; simp [hn]
  obtain ⟨c0, c1, c2⟩ := cells_get _ n t hs
  refine ⟨g, rfl, hb, hg, ?_, ?_, ?_, ?_⟩
  · rw [h.2.cellAt _ (by omega)]; exact c0
  · rw [h.2.cellAt _ (by omega)]; exact c1
  · rw [h.2.cellAt _ (by omega)]; exact c2
  · exact h.2.frozenAt _
/-- A store into the last scrap's length. -/
theorem Own.setLast {w : World} {base g n cap : Nat} {l : List S} {t : S} (h : Own w base (some ⟨g, 0, none⟩) (n+1) cap (l ++ [t])) (x : Int) :
    Own (w.setCell ⟨g, n * 3 + 2, none⟩ (.int .i64 x)) base (some ⟨g, 0, none⟩) (n+1) cap (l ++ [{ t with len := x }]) := by
  have hn : l.length = n := by simpa using h.1
  have h1 := (h.2.stored (n * 3 + 2) (.int .i64 x)).1
  refine ⟨by simp [hn], ?_⟩
  have e := cells_setlen l t ⟨0, 0, x⟩
  rw [hn] at e
  rw [← e] at h1
  exact h1
theorem ext_of_own {w' : World} {base : Nat} {v : Value} {n : Nat} {xs : List Value} (h : w'.ownsRow base 80 3 v n xs) : ∃ A cap, v = .slice A n cap := by
  rcases h.2 with ⟨hv, hn⟩ | ⟨g, cap', cur, hv, _⟩
  · subst hn; exact ⟨_, _, hv⟩
  · exact ⟨_, _, hv⟩
/-- What holds below the new blocks alone: a result's row is read in every later world. -/
theorem Own.rdlt {w : World} {base : Nat} {A : Option Addr} {n cap : Nat} {l : List S} (h : Own w base A n cap l) {w' : World} (hb : Below w.heap.size w w') : Rd w' w'.heap.size A l :=
  (h.rd.below hb (Nat.le_refl _)).more hb.size
theorem one_new (w : World) (s : S) : ∀ j u, (cells [s])[j]? = some u → (w.alloc (.cells #[.int .i64 s.src, .int .i64 s.at_, .int .i64 s.len] 80)).cell? ((⟨w.heap.size, 0, none⟩ : Addr).add j) = some u := by
  intro j u hu
  have hadd : (⟨w.heap.size, 0, none⟩ : Addr).add j = ⟨w.heap.size, j, none⟩ := by unfold Addr.add; split <;> simp_all
  rw [hadd, cell_of_row _ _ j _ 80 (0, 0) (heap_alloc_new w _)]
  simpa [cells_one] using hu
theorem new_one (w : World) (s : S) (g : Nat) (hg : g = w.heap.size) : ∀ j u, (cells [s])[j]? = some u → (w.alloc (.cells #[.int .i64 s.src, .int .i64 s.at_, .int .i64 s.len] 80)).cell? ((⟨g, 0, none⟩ : Addr).add j) = some u := by
  subst hg; exact one_new w s
/-- Behind an append of one scrap to the call's own row, in a round that has laid a block of its own. -/
theorem app_step {w wr W0 w1 : World} {BB n c : Nat} {A' : Option Addr} {L : List S} {s' : S} {v' : Value} (hown : Own wr BB A' n c L) (hb : Below BB w wr) (hsz : BB ≤ wr.heap.size)
    (hW : Below wr.heap.size wr W0) (hown' : w1.ownsRow BB 80 3 v' (n+1) (cells L ++ cells [s'])) (hg : W0.grownBy w1 (Value.slice A' n c).ownBlock) :
    (∃ A'' c'', v' = .slice A'' (n+1) c'' ∧ Own w1 BB A'' (n+1) c'' (L ++ [s'])) ∧ Below BB w w1 ∧ Below BB wr w1 ∧ W0.heap.size ≤ w1.heap.size ∧ (∀ g o, wr.heap.size ≤ g → g < W0.heap.size → w1.cell? ⟨g, o, none⟩ = W0.cell? ⟨g, o, none⟩) := by
  have hr : ∀ k, (Value.slice A' n c).ownBlock = some k → BB ≤ k ∧ k < wr.heap.size := hown.2.lt
  refine ⟨?_, ?_, (hW.mono hsz).grown hg (by have := hW.size; omega) (fun k hk => (hr k hk).1), hg.size, ?_⟩
  · obtain ⟨A'', c'', rfl⟩ := ext_of_own hown'
    exact ⟨A'', c'', rfl, by simp [hown.1], by rw [cells_append]; exact hown'⟩
  · exact (hb.trans (hW.mono hsz)).grown hg (by have := hW.size; omega) (fun k hk => (hr k hk).1)
  · intro g o h1 h2
    exact World.cell?_of_block (w := W0) (a := ⟨g, o, none⟩) (hg.block g h2 (fun e => by have := (hr g e.symm).2; omega))
theorem cell_new (w : World) (cs : Array Value) (t : TypeId) (j : Nat) : (w.alloc (.cells cs t)).cell? ⟨w.heap.size, j, none⟩ = cs[j]? := cell_of_row _ _ j cs t (0, 0) (heap_alloc_new w _)
theorem cell_new2 (w : World) (cs : Array Value) (t : TypeId) (nq : Nat) (o2 : Obj) (j : Nat) : (((w.alloc (.cells cs t)).drewN nq).alloc o2).cell? ⟨w.heap.size, j, none⟩ = cs[j]? := by
  rw [World.cell?_alloc_lt _ _ _ (by simp)]; exact cell_new w cs t j
theorem cell_new1 (w : World) (cs : Array Value) (t : TypeId) (o2 : Obj) (j : Nat) : ((w.alloc (.cells cs t)).alloc o2).cell? ⟨w.heap.size, j, none⟩ = cs[j]? := by
  rw [World.cell?_alloc_lt _ _ _ (by simp)]; exact cell_new w cs t j
theorem bcell {W w1 : World} {B : Nat} (hb : Below B W w1) : (∀ b o, b < B → w1.cell? ⟨b, o, none⟩ = W.cell? ⟨b, o, none⟩) ∧ (∀ b o, b < B → w1.frozen? ⟨b, o, none⟩ = W.frozen? ⟨b, o, none⟩) :=
  ⟨fun b o h => hb.cell (p := ⟨b, o, none⟩) h, fun b o h => hb.frozen (p := ⟨b, o, none⟩) h⟩
theorem ret_int {k : IntKind} {a b : Int} (h : a = b) : Ending.returned (.int k a) = .returned (.int k b) := by rw [h]
theorem ret_bool {a b : Bool} (h : a = b) : Ending.returned (.bool a) = .returned (.bool b) := by rw [h]
theorem belowDrewN {B : Nat} {a w : World} (h : Below B a w) (n : Nat) : Below B a (w.drewN n) := ⟨h.os, h.tape, h.output, h.size, h.block⟩
end Go.Proofs.YtblibmalommdkaaGreat.Sc

/-
  Plain laws on lists of scraps: joining, pieces; the bytes of a list; no program in sight.
-/
namespace Go.Proofs.YtblibmalommdkaaGreat.Sc
open Go.RowKit
def glue (out : List S) (s : S) : List S :=
  match out.getLast? with
  | some t => if t.src = s.src ∧ t.at_ + t.len = s.at_ then out.dropLast ++ [{ t with len := t.len + s.len }] else out ++ [s]
  | none => [s]
theorem glue_nil (s : S) : glue [] s = [s] := rfl
theorem glue_yes (L : List S) (t s : S) (h : t.src = s.src ∧ t.at_ + t.len = s.at_) : glue (L ++ [t]) s = L ++ [{ t with len := t.len + s.len }] := by
  simp [glue, h]
theorem glue_no (L : List S) (t s : S) (h : ¬ (t.src = s.src ∧ t.at_ + t.len = s.at_)) : glue (L ++ [t]) s = L ++ [t] ++ [s] := by
  simp [glue, h]
def joinL (l : List S) : List S := l.foldl glue []
theorem joinL_snoc (l : List S) (s : S) : joinL (l ++ [s]) = glue (joinL l) s := by simp [joinL, List.foldl_append]
theorem snoc_cases {α : Type} (l : List α) : l = [] ∨ ∃ L t, l = L ++ [t] := by
  rcases List.eq_nil_or_concat l with h | ⟨L, t, h⟩
  · exact .inl h
  · exact .inr ⟨L, t, by simpa using h⟩
theorem glue_ok {l : List S} {s : S} (h : Ok l) (hs : okS s) : Ok (glue l s) := by
  have h1 : Ok [s] := fun t ht => by simp at ht; subst ht; exact hs
  rcases snoc_cases l with rfl | ⟨L, t, rfl⟩
  · exact h1
  · by_cases hc : t.src = s.src ∧ t.at_ + t.len = s.at_
    · rw [glue_yes L t s hc]
      refine Ok.append (fun u hu => h u (by simp [hu])) ?_
      intro u hu
      simp at hu; subst hu
      have ht := h t (by simp)
      unfold okS at *
      simp only
      omega
    · rw [glue_no L t s hc]
      exact h.append h1
theorem foldl_ok (l : List S) : ∀ out, Ok out → Ok l → Ok (l.foldl glue out) := by
  induction l with
  | nil => intro out h _; exact h
  | cons a l ih => intro out h h'; exact ih _ (glue_ok h (h' a (by simp))) h'.tail
theorem joinL_ok {l : List S} (h : Ok l) : Ok (joinL l) := foldl_ok l [] (fun s hs => by simp at hs) h
theorem tot_glue (l : List S) (s : S) : tot (glue l s) = tot l + s.len := by
  rcases snoc_cases l with rfl | ⟨L, t, rfl⟩
  · simp [glue_nil, tot]
  · by_cases hc : t.src = s.src ∧ t.at_ + t.len = s.at_
    · rw [glue_yes L t s hc]; simp only [tot_append, tot]; omega
    · rw [glue_no L t s hc]; simp only [tot_append, tot]; omega
theorem tot_foldl (l : List S) : ∀ out, tot (l.foldl glue out) = tot out + tot l := by
  induction l with
  | nil => intro out; simp [tot]
  | cons a l ih => intro out; simp only [List.foldl_cons, ih, tot_glue, tot]; omega
theorem tot_joinL (l : List S) : tot (joinL l) = tot l := by simp [joinL, tot_foldl, tot]
theorem glue_length (l : List S) (s : S) : (glue l s).length ≤ l.length + 1 := by
  rcases snoc_cases l with rfl | ⟨L, t, rfl⟩
  · simp [glue_nil]
  · by_cases hc : t.src = s.src ∧ t.at_ + t.len = s.at_
    · rw [glue_yes L t s hc]; simp
    · rw [glue_no L t s hc]; simp
theorem foldl_length (l : List S) : ∀ out, (l.foldl glue out).length ≤ out.length + l.length := by
  induction l with
  | nil => intro out; simp
  | cons a l ih => intro out; have := ih (glue out a); have := glue_length out a; simp only [List.foldl_cons, List.length_cons]; omega
theorem joinL_length (l : List S) : (joinL l).length ≤ l.length := by have := foldl_length l []; simpa [joinL] using this
end Go.Proofs.YtblibmalommdkaaGreat.Sc

/-
  The bytes of a list of scraps, one by one: a joined list is known by its bytes; pieces are pieces of the bytes. No program in sight.
-/
namespace Go.Proofs.YtblibmalommdkaaGreat.Sc
open Go.RowKit
def sb (s : S) : List (Int × Int) := (List.range s.len.toNat).map fun (i : Nat) => (s.src, s.at_ + (i : Int))
def bts (l : List S) : List (Int × Int) := l.flatMap sb
theorem sb_length (s : S) : (sb s).length = s.len.toNat := by simp [sb]
theorem bts_append (l m : List S) : bts (l ++ m) = bts l ++ bts m := by simp [bts]
theorem bts_cons (s : S) (l : List S) : bts (s :: l) = sb s ++ bts l := rfl
theorem bts_one (s : S) : bts [s] = sb s := by simp [bts]
theorem bts_length {l : List S} (h : Ok l) : ((bts l).length : Int) = tot l := by
  induction l with
  | nil => rfl
  | cons a l ih =>
    have ha := h a (by simp)
    have h2 := ih h.tail
    unfold okS at ha
    rw [bts_cons, List.length_append, sb_length, tot]
    omega
theorem sb_add (src at_ a b : Int) (ha : 0 ≤ a) (hb : 0 ≤ b) : sb ⟨src, at_, a + b⟩ = sb ⟨src, at_, a⟩ ++ sb ⟨src, at_ + a, b⟩ := by
  obtain ⟨a, rfl⟩ := Int.eq_ofNat_of_zero_le ha
  obtain ⟨b, rfl⟩ := Int.eq_ofNat_of_zero_le hb
  have e : ((a : Int) + (b : Int)).toNat = a + b := by omega
  simp only [sb, e, Int.toNat_natCast]
  rw [List.range_add, List.map_append, List.map_map]
  congr 1
  apply List.map_congr_left
  intro i _
  simp
  omega
theorem bts_glue {l : List S} {s : S} (h : Ok l) (hs : okS s) : bts (glue l s) = bts l ++ sb s := by
  rcases snoc_cases l with rfl | ⟨L, t, rfl⟩
  · simp [glue_nil, bts]
  · have ht := h t (by simp)
    unfold okS at ht hs
    by_cases hc : t.src = s.src ∧ t.at_ + t.len = s.at_
    · rw [glue_yes L t s hc, bts_append, bts_append, List.append_assoc, bts_one, bts_one]
      congr 1
      have h1 := sb_add t.src t.at_ t.len s.len (by omega) (by omega)
      rw [h1, hc.2]
      congr 1
      rw [hc.1]
    · rw [glue_no L t s hc, bts_append _ [s], bts_one]
theorem bts_foldl (l : List S) : ∀ out, Ok out → Ok l → bts (l.foldl glue out) = bts out ++ bts l := by
  induction l with
  | nil => intro out _ _; simp [bts]
  | cons a l ih =>
    intro out h h'
    have ha := h' a (by simp)
    rw [List.foldl_cons, ih _ (glue_ok h ha) h'.tail, bts_glue h ha, bts_cons, List.append_assoc]
theorem ok_nil : Ok [] := fun s hs => by simp at hs
theorem bts_joinL {l : List S} (h : Ok l) : bts (joinL l) = bts l := by
  have := bts_foldl l [] ok_nil h
  simpa [joinL, bts] using this
/-- One byte more. -/
def glue1 (out : List S) (x : Int × Int) : List S := glue out ⟨x.1, x.2, 1⟩
theorem glue_glue (out : List S) (src at_ a b : Int) : glue (glue out ⟨src, at_, a⟩) ⟨src, at_ + a, b⟩ = glue out ⟨src, at_, a + b⟩ := by
  rcases snoc_cases out with rfl | ⟨L, t, rfl⟩
  · rw [glue_nil]
    exact glue_yes [] _ _ ⟨rfl, rfl⟩
  · by_cases hc : t.src = src ∧ t.at_ + t.len = at_
    · have hc' : t.src = (⟨src, at_, a + b⟩ : S).src ∧ t.at_ + t.len = (⟨src, at_, a + b⟩ : S).at_ := hc
      rw [glue_yes L t ⟨src, at_, a + b⟩ hc', glue_yes L t ⟨src, at_, a⟩ hc]
      rw [glue_yes L _ _ ⟨hc.1, by simp only; omega⟩]
      congr 2
      simp only [S.mk.injEq, true_and]
      omega
    · rw [glue_no L t ⟨src, at_, a + b⟩ hc, glue_no L t ⟨src, at_, a⟩ hc]
      rw [glue_yes (L ++ [t]) ⟨src, at_, a⟩ ⟨src, at_ + a, b⟩ ⟨rfl, rfl⟩]
theorem glue_bytes (out : List S) (src at_ : Int) (n : Nat) : glue out ⟨src, at_, ((n : Int) + 1)⟩ = (sb ⟨src, at_, (n : Int) + 1⟩).foldl glue1 out := by
  induction n with
  | zero => simp [sb, glue1]
  | succ n ih =>
    have h1 := sb_add src at_ ((n : Int) + 1) 1 (by omega) (by omega)
    have e : (((n + 1 : Nat) : Int) + 1) = (n : Int) + 1 + 1 := by omega
    rw [e, h1, List.foldl_append, ← ih]
    simp only [sb]
    have h2 := glue_glue out src at_ ((n : Int) + 1) 1
    rw [← h2]
    simp [glue1]
theorem glue_sb (out : List S) (s : S) (h : 1 ≤ s.len) : glue out s = (sb s).foldl glue1 out := by
  obtain ⟨src, at_, len⟩ := s
  simp only at h
  obtain ⟨n, hn⟩ := Int.eq_ofNat_of_zero_le (show 0 ≤ len - 1 by omega)
  have e : len = (n : Int) + 1 := by omega
  subst e
  exact glue_bytes out src at_ n
theorem foldl_bts (l : List S) (h : Ok l) : ∀ out, l.foldl glue out = (bts l).foldl glue1 out := by
  induction l with
  | nil => intro out; rfl
  | cons a l ih =>
    intro out
    have ha := h a (by simp)
    unfold okS at ha
    rw [List.foldl_cons, ih h.tail, glue_sb _ _ (by omega), bts_cons, List.foldl_append]
/-- A JOINED LIST IS KNOWN BY ITS BYTES. -/
theorem joinL_congr {l m : List S} (hl : Ok l) (hm : Ok m) (h : bts l = bts m) : joinL l = joinL m := by
  unfold joinL
  rw [foldl_bts l hl, foldl_bts m hm, h]
theorem joinL_joinL {l : List S} (h : Ok l) : joinL (joinL l) = joinL l := joinL_congr (joinL_ok h) h (bts_joinL h)
/-- No two scraps go on in one another. -/
def Sep (l : List S) : Prop := ∀ k s t, l[k]? = some s → l[k+1]? = some t → ¬ (s.src = t.src ∧ s.at_ + s.len = t.at_)
theorem sep_snoc {L : List S} {t : S} (h : Sep (L ++ [t])) : Sep L := by
  intro k s u hs hu
  have h1 := (List.getElem?_eq_some_iff.1 hs).1
  have h2 := (List.getElem?_eq_some_iff.1 hu).1
  exact h k s u (by rw [List.getElem?_append_left h1]; exact hs) (by rw [List.getElem?_append_left h2]; exact hu)
theorem sep_glue {l : List S} {s : S} (h : Sep l) : Sep (glue l s) := by
  rcases snoc_cases l with rfl | ⟨L, t, rfl⟩
  · intro k a b _ hb
    simp [glue_nil] at hb
  · by_cases hc : t.src = s.src ∧ t.at_ + t.len = s.at_
    · rw [glue_yes L t s hc]
      intro k a b ha hb
      by_cases hk : k + 1 < L.length
      · rw [List.getElem?_append_left (by omega)] at ha
        rw [List.getElem?_append_left hk] at hb
        exact sep_snoc h k a b ha hb
      · have h2 := (List.getElem?_eq_some_iff.1 hb).1
        simp at h2
        have e : L.length = k + 1 := by omega
        rw [List.getElem?_append_left (by omega)] at ha
        rw [List.getElem?_append_right (by omega), ← e, Nat.sub_self] at hb
        simp at hb
        subst hb
        exact h k a t (by rw [List.getElem?_append_left (by omega)]; exact ha) (by rw [List.getElem?_append_right (by omega), ← e, Nat.sub_self]; rfl)
    · rw [glue_no L t s hc]
      intro k a b ha hb
      by_cases hk : k + 1 < (L ++ [t]).length
      · rw [List.getElem?_append_left (by omega)] at ha
        rw [List.getElem?_append_left hk] at hb
        exact h k a b ha hb
      · have h2 := (List.getElem?_eq_some_iff.1 hb).1
        simp at h2 hk
        have e : L.length = k := by omega
        subst e
        rw [List.getElem?_append_left (by simp), List.getElem?_append_right (by omega), Nat.sub_self] at ha
        rw [List.getElem?_append_right (by simp)] at hb
        simp at ha hb
        subst ha; subst hb
        exact hc
theorem sep_joinL (l : List S) : Sep (joinL l) := by
  suffices h : ∀ (l out : List S), Sep out → Sep (l.foldl glue out) from h l [] (fun k s t hs _ => by simp at hs)
  intro l
  induction l with
  | nil => intro out h; exact h
  | cons a l ih => intro out h; exact ih _ (sep_glue h)
end Go.Proofs.YtblibmalommdkaaGreat.Sc

/-
  Slices of bytes in memory: read, owned; rows of such slices. The element type's number is a parameter (5 here). No program in sight.
-/
namespace Go.Proofs.YtblibmalommdkaaGreat.Sc
open Go.RowKit
def bcells (l : List Int) : List Value := l.map (Value.int .u8)
theorem bcells_get (l : List Int) (k : Nat) : (bcells l)[k]? = (l[k]?).map (Value.int .u8) := by simp [bcells]
theorem bcells_one (l : List Int) : ∀ u ∈ bcells l, u.oneCell' = true := by
  intro u hu
  obtain ⟨x, _, rfl⟩ := List.mem_map.1 hu
  rfl
/-- A slice of bytes that reads as a list, nil let in. -/
def RdB (w : World) (B : Nat) (A : Option Addr) (l : List Int) : Prop :=
  ∀ k v, l[k]? = some v → ∃ b off, A = some ⟨b, off, none⟩ ∧ b < B ∧ w.cell? ⟨b, off + k, none⟩ = some (.int .u8 v)
theorem RdB.keep {w w' : World} {B : Nat} {A : Option Addr} {l : List Int} (h : RdB w B A l) (hk : ∀ p : Addr, p.block < B → w'.cell? p = w.cell? p) : RdB w' B A l := by
  intro k s hs
  obtain ⟨b, off, e, hb, h0⟩ := h k s hs
  exact ⟨b, off, e, hb, (hk _ hb).trans h0⟩
theorem RdB.below {w w' : World} {B B' : Nat} {A : Option Addr} {l : List Int} (h : RdB w B A l) (hb : Below B' w w') (hB : B ≤ B') : RdB w' B A l := h.keep fun _ hp => hb.cell (by omega)
theorem RdB.more {w : World} {B B' : Nat} {A : Option Addr} {l : List Int} (h : RdB w B A l) (hB : B ≤ B') : RdB w B' A l := by
  intro k s hs
  obtain ⟨b, off, e, hb, hh⟩ := h k s hs
  exact ⟨b, off, e, by omega, hh⟩
theorem RdB.up {w w' : World} {A : Option Addr} {l : List Int} (h : RdB w w.heap.size A l) (hb : Below w.heap.size w w') : RdB w' w'.heap.size A l := (h.below hb (Nat.le_refl _)).more hb.size
theorem RdB.alloc {w : World} {B : Nat} {A : Option Addr} {l : List Int} (h : RdB w B A l) (hB : B ≤ w.heap.size) (o : Obj) : RdB (w.alloc o) B A l := h.keep fun p hp => World.cell?_alloc_lt w o p (by omega)
theorem RdB.nil (w : World) (B : Nat) (A : Option Addr) : RdB w B A [] := fun k s hs => by simp at hs
theorem RdB.drewN {w : World} {B : Nat} {A : Option Addr} {l : List Int} (h : RdB w B A l) (n : Nat) : RdB (w.drewN n) B A l := h
/-- A piece of a row that is not empty. -/
theorem RdB.piece {w : World} {B b off : Nat} {l : List Int} (h : RdB w B (some ⟨b, off, none⟩) l) (i n : Nat) : RdB w B (some ⟨b, off + i, none⟩) ((l.drop i).take n) := by
  intro k v hv
  rw [List.getElem?_take] at hv
  split at hv
  · rw [List.getElem?_drop] at hv
    obtain ⟨b', off', e, hb, hc⟩ := h _ _ hv
    cases e
    exact ⟨b, off + i, rfl, hb, by rw [Nat.add_assoc]; exact hc⟩
  · cases hv
theorem RdB.cells {w : World} {B b off : Nat} {l : List Int} (h : RdB w B (some ⟨b, off, none⟩) l) : ∀ j u, (bcells l)[j]? = some u → w.cell? ((⟨b, off, none⟩ : Addr).add j) = some u := by
  intro j u hu
  rw [bcells_get] at hu
  obtain ⟨v, hv, rfl⟩ := Option.map_eq_some_iff.1 hu
  obtain ⟨b', off', e, hb, hc⟩ := h _ _ hv
  cases e
  have hadd : (⟨b, off, none⟩ : Addr).add j = ⟨b, off + j, none⟩ := by unfold Addr.add; split <;> simp_all
  rw [hadd]; exact hc
/-- The call's own row of bytes. -/
def OwnB (w : World) (base : Nat) (A : Option Addr) (n cap : Nat) (l : List Int) : Prop := l.length = n ∧ w.ownsRow base 5 1 (.slice A n cap) n (bcells l)
theorem OwnB.rd {w : World} {base : Nat} {A : Option Addr} {n cap : Nat} {l : List Int} (h : OwnB w base A n cap l) : RdB w w.heap.size A l := by
  obtain ⟨hl, h⟩ := h
  intro k s hs
  have hk : k < l.length := (List.getElem?_eq_some_iff.1 hs).1
  have h2 := h.2
  rcases h2 with ⟨hv, hn⟩ | ⟨g, cap', cur, hv, hbg, hg, hr⟩
  · omega
  · injection hv with ha hn hc
    subst ha; subst hc
    have hlt : g < w.heap.size := (Array.getElem?_eq_some_iff.1 hg).1
    refine ⟨g, 0, rfl, hlt, ?_⟩
    rw [h.cellAt _ (by omega), bcells_get, Nat.zero_add, hs]; rfl
theorem OwnB.nil (w : World) (base : Nat) : OwnB w base none 0 0 [] := ⟨rfl, World.ownsRow_nil _ _ _ _⟩
theorem OwnB.below {w w' : World} {base : Nat} {A : Option Addr} {n cap B : Nat} {l : List Int} (h : OwnB w base A n cap l) (hb : Below B w w') (hB : w.heap.size ≤ B) : OwnB w' base A n cap l :=
  ⟨h.1, h.2.kept (row := none) ⟨hb.os, hb.tape, hb.output, hb.size, fun k hk _ => hb.block k (by omega)⟩ (by cases A <;> simp [Value.ownBlock])⟩
theorem OwnB.alloc {w : World} {base : Nat} {A : Option Addr} {n cap : Nat} {l : List Int} (h : OwnB w base A n cap l) (o : Obj) : OwnB (w.alloc o) base A n cap l := ⟨h.1, h.2.alloc o⟩
theorem OwnB.drewN {w : World} {base : Nat} {A : Option Addr} {n cap : Nat} {l : List Int} (h : OwnB w base A n cap l) (k : Nat) : OwnB (w.drewN k) base A n cap l := h
theorem OwnB.mono {w : World} {base base' : Nat} {A : Option Addr} {n cap : Nat} {l : List Int} (h : OwnB w base A n cap l) (hB : base' ≤ base) : OwnB w base' A n cap l := by
  obtain ⟨h0, h1, h2⟩ := h
  refine ⟨h0, h1, ?_⟩
  rcases h2 with h2 | ⟨g, cap', cur, hv, hbg, hr⟩
  · exact .inl h2
  · exact .inr ⟨g, cap', cur, hv, by omega, hr⟩
theorem OwnB.cap {w : World} {base : Nat} {A : Option Addr} {n cap : Nat} {l : List Int} (h : OwnB w base A n cap l) : n ≤ cap ∧ cap ≤ maxLen := by
  obtain ⟨hl, h1, h2⟩ := h
  rcases h2 with ⟨hv, hn'⟩ | ⟨g, cap', cur, hv, hbg, hg, hnc, hcm, _⟩
  · injection hv with _ hn hc
    subst hc; omega
  · injection hv with ha _ hc
    subst hc
    exact ⟨hnc, hcm⟩
theorem ext_of_ownB {w' : World} {base : Nat} {v : Value} {n : Nat} {xs : List Value} (h : w'.ownsRow base 5 1 v n xs) : ∃ A cap, v = .slice A n cap := by
  rcases h.2 with ⟨hv, hn⟩ | ⟨g, cap', cur, hv, _⟩
  · subst hn; exact ⟨_, _, hv⟩
  · exact ⟨_, _, hv⟩
/-- Behind an append of bytes to the call's own row. -/
theorem appB_step {w wr W0 w1 : World} {BB n m c : Nat} {A' : Option Addr} {L K : List Int} {v' : Value} (hown : OwnB wr BB A' n c L) (hb : Below BB w wr) (hsz : BB ≤ wr.heap.size)
    (hW : Below wr.heap.size wr W0) (hK : K.length = m) (hown' : w1.ownsRow BB 5 1 v' (n+m) (bcells L ++ bcells K)) (hg : W0.grownBy w1 (Value.slice A' n c).ownBlock) :
    (∃ A'' c'', v' = .slice A'' (n+m) c'' ∧ OwnB w1 BB A'' (n+m) c'' (L ++ K)) ∧ Below BB w w1 ∧ Below BB wr w1 ∧ W0.heap.size ≤ w1.heap.size ∧ (∀ g o, wr.heap.size ≤ g → g < W0.heap.size → w1.cell? ⟨g, o, none⟩ = W0.cell? ⟨g, o, none⟩) := by
  have hr : ∀ k, (Value.slice A' n c).ownBlock = some k → BB ≤ k ∧ k < wr.heap.size := hown.2.lt
  refine ⟨?_, ?_, (hW.mono hsz).grown hg (by have := hW.size; omega) (fun k hk => (hr k hk).1), hg.size, ?_⟩
  · obtain ⟨A'', c'', rfl⟩ := ext_of_ownB hown'
    exact ⟨A'', c'', rfl, by simp [hown.1, hK], by simpa [bcells] using hown'⟩
  · exact (hb.trans (hW.mono hsz)).grown hg (by have := hW.size; omega) (fun k hk => (hr k hk).1)
  · intro g o h1 h2
    exact World.cell?_of_block (w := W0) (a := ⟨g, o, none⟩) (hg.block g h2 (fun e => by have := (hr g e.symm).2; omega))
theorem newb_one (w : World) (v : Int) (g : Nat) (hg : g = w.heap.size) : ∀ j u, (bcells [v])[j]? = some u → (w.alloc (.cells #[.int .u8 v] 5)).cell? ((⟨g, 0, none⟩ : Addr).add j) = some u := by
  subst hg
  intro j u hu
  have hadd : (⟨w.heap.size, 0, none⟩ : Addr).add j = ⟨w.heap.size, j, none⟩ := by unfold Addr.add; split <;> simp_all
  rw [hadd, cell_new]
  simpa [bcells] using hu
/-- A slice of slices of bytes. -/
def RdBL (w : World) (B : Nat) (A : Option Addr) (ls : List (List Int)) : Prop :=
  ∀ k l, ls[k]? = some l → ∃ b off Ak ck, A = some ⟨b, off, none⟩ ∧ b < B ∧ w.cell? ⟨b, off + k, none⟩ = some (.slice Ak l.length ck) ∧ l.length ≤ ck ∧ ck ≤ maxLen ∧ RdB w B Ak l
theorem RdBL.below {w w' : World} {B B' : Nat} {A : Option Addr} {l : List (List Int)} (h : RdBL w B A l) (hb : Below B' w w') (hB : B ≤ B') : RdBL w' B A l := by
  intro k l hl
  obtain ⟨b, off, Ak, ck, e, hlt, hc, h1, h2, hr⟩ := h k l hl
  exact ⟨b, off, Ak, ck, e, hlt, (hb.cell (p := ⟨b, off + k, none⟩) (show b < B' by omega)).trans hc, h1, h2, hr.below hb hB⟩
theorem RdBL.more {w : World} {B B' : Nat} {A : Option Addr} {l : List (List Int)} (h : RdBL w B A l) (hB : B ≤ B') : RdBL w B' A l := by
  intro k l hl
  obtain ⟨b, off, Ak, ck, e, hlt, hc, h1, h2, hr⟩ := h k l hl
  exact ⟨b, off, Ak, ck, e, by omega, hc, h1, h2, hr.more hB⟩
theorem RdBL.up {w w' : World} {A : Option Addr} {l : List (List Int)} (h : RdBL w w.heap.size A l) (hb : Below w.heap.size w w') : RdBL w' w'.heap.size A l := (h.below hb (Nat.le_refl _)).more hb.size

/-! ### The text of a list, as Text tells it -/
def srcOf (srcs : List (List Int)) (s : S) : List Int := srcs.getD s.src.toNat []
def textE (srcs : List (List Int)) : List S → Int
  | [] => 0
  | s :: l => if (srcs.length : Int) ≤ s.src then 6 else if ((srcOf srcs s).length : Int) < s.at_ ∨ ((srcOf srcs s).length : Int) - s.at_ < s.len then 2 else textE srcs l
def pieceB (srcs : List (List Int)) (s : S) : List Int := ((srcOf srcs s).drop s.at_.toNat).take s.len.toNat
def textB (srcs : List (List Int)) (l : List S) : List Int := l.flatMap (pieceB srcs)
/-- A scrap whose bytes are there. -/
def Has (srcs : List (List Int)) (s : S) : Prop := s.src < srcs.length ∧ s.at_ ≤ (srcOf srcs s).length ∧ s.len ≤ (srcOf srcs s).length - s.at_
theorem textE_append (srcs : List (List Int)) (l m : List S) (h : ∀ s ∈ l, Has srcs s) : textE srcs (l ++ m) = textE srcs m := by
  induction l with
  | nil => rfl
  | cons a l ih =>
    have ha := h a (by simp)
    unfold Has at ha
    rw [List.cons_append, textE, if_neg (by omega), if_neg (by omega)]
    exact ih fun s hs => h s (by simp [hs])
theorem textE_at {srcs : List (List Int)} {l : List S} {k : Nat} {s : S} (hs : l[k]? = some s) (h : ∀ s ∈ l.take k, Has srcs s) : textE srcs l = textE srcs (s :: l.drop (k+1)) := by
  obtain ⟨hk, rfl⟩ := List.getElem?_eq_some_iff.1 hs
  conv => lhs; rw [← List.take_append_drop k l, textE_append _ _ _ h, List.drop_eq_getElem_cons hk]
theorem textE_all {srcs : List (List Int)} {l : List S} (h : ∀ s ∈ l, Has srcs s) : textE srcs l = 0 := by
  have := textE_append srcs l [] h
  simpa [textE] using this
theorem has_take {srcs : List (List Int)} {l : List S} {k : Nat} {s : S} (hs : l[k]? = some s) (h : ∀ s ∈ l.take k, Has srcs s) (h' : Has srcs s) : ∀ s ∈ l.take (k+1), Has srcs s := by
  intro t ht
  rw [take_snoc l k s hs, List.mem_append] at ht
  rcases ht with ht | ht
  · exact h t ht
  · simp at ht; subst ht; exact h'
theorem has_all {srcs : List (List Int)} {l : List S} (h : textE srcs l = 0) : ∀ s ∈ l, Has srcs s := by
  induction l with
  | nil => intro s hs; simp at hs
  | cons a l ih =>
    rw [textE] at h
    split at h
    · cases h
    · split at h
      · cases h
      · intro s hs
        rcases List.mem_cons.1 hs with rfl | hs
        · unfold Has; omega
        · exact ih h s hs
theorem pieceB_length {srcs : List (List Int)} {s : S} (h : Has srcs s) (h0 : 0 ≤ s.at_) : (pieceB srcs s).length = s.len.toNat := by
  unfold Has at h
  simp only [pieceB, List.length_take, List.length_drop]
  omega
theorem textB_length {srcs : List (List Int)} {l : List S} (h : ∀ s ∈ l, Has srcs s) (ho : Ok l) : ((textB srcs l).length : Int) = tot l := by
  induction l with
  | nil => rfl
  | cons a l ih =>
    have ha := ho a (by simp)
    have h1 := pieceB_length (h a (by simp)) ha.2.2.1
    have h2 := ih (fun s hs => h s (by simp [hs])) ho.tail
    unfold okS at ha
    simp only [textB, List.flatMap_cons, List.length_append, tot] at h2 ⊢
    omega
theorem textB_snoc {srcs : List (List Int)} {l : List S} {k : Nat} {s : S} (hs : l[k]? = some s) : textB srcs (l.take (k+1)) = textB srcs (l.take k) ++ pieceB srcs s := by
  rw [take_snoc l k s hs]; simp [textB]
end Go.Proofs.YtblibmalommdkaaGreat.Sc

/-
  An append of a slice that reads as a list, nil let in, to a row of the call's own. No program in sight.
-/
namespace Go
theorem wpList_append_any {P : Program} {w : World} {ops : Array Oper} {rest : List Oper} {o : Oper} {a : Act} {Q : Exit → Act → World → Prop} (hgd : o.guard = none) (s x : Operand) (t : TypeId)
    (ho : o.op = .call { callee := .builtin .append, args := #[s, x], argTypes := #[t, t] })
    (base : Nat) (e : TypeId) (i : TypeInfo) (z : Value) (size bytes : Nat) (ht : P.underlying t = some (.slice e)) (hi : P.info? e = some i) (hz : i.zero = some z)
    (hsize : i.size = size) (hby : i.bytes = bytes) (hzs : z.cells.size = size) (hsz : 0 < size)
    (v : Value) (n : Nat) (xs : List Value) (hs : a.eval s = v) (hown : w.ownsRow base e size v n xs)
    (A : Option Addr) (m c : Nat) (news : List Value) (hx : a.eval x = .slice A m c) (hnone : A = none → m = 0 ∧ c = 0) (hl : news.length = m * size) (hnews : ∀ ad, A = some ad → ∀ j u, news[j]? = some u → w.cell? (ad.add j) = some u) (h1 : ∀ u ∈ news, u.oneCell' = true)
    (h63 : n + m ≤ maxLen) (hbytes : (n + m) * bytes ≤ 140737488355328) (hbase : base ≤ w.heap.size)
    (h : ∀ v' w', w'.ownsRow base e size v' (n + m) (xs ++ news) → w.grownBy w' v.ownBlock → wpList P ops Q rest (a.put o.dst v') w') : wpList P ops Q (o :: rest) a w := by
  cases A with
  | none =>
    obtain ⟨rfl, rfl⟩ := hnone rfl
    have hn : news = [] := List.eq_nil_of_length_eq_zero (by simpa using hl)
    subst hn
    refine wpList_append_own_none hgd s x t ho base e i size ht hi v n xs hs hown hx (h v w ?_ (World.grownBy.refl _ _))
    simpa using hown
  | some ad =>
    exact wpList_append_own w hgd s x t ho base e i z size bytes ht hi hz hsize hby hzs hsz v n xs hs hown ad m c news hx hl (hnews ad rfl) h1 h63 hbytes hbase (fun v' w' h1 h2 _ => h v' w' h1 h2)
end Go
namespace Go.Proofs.YtblibmalommdkaaGreat.Sc
open Go.RowKit
theorem cells_inv (l : List S) (j : Nat) (u : Value) (h : (cells l)[j]? = some u) : ∃ k s, l[k]? = some s ∧ ((j = k*3 ∧ u = .int .i64 s.src) ∨ (j = k*3+1 ∧ u = .int .i64 s.at_) ∨ (j = k*3+2 ∧ u = .int .i64 s.len)) := by
  induction l generalizing j with
  | nil => simp [cells] at h
  | cons a l ih =>
    rw [cells_cons] at h
    match j, h with
    | 0, h => simp at h; exact ⟨0, a, rfl, .inl ⟨rfl, h.symm⟩⟩
    | 1, h => simp at h; exact ⟨0, a, rfl, .inr (.inl ⟨rfl, h.symm⟩)⟩
    | 2, h => simp at h; exact ⟨0, a, rfl, .inr (.inr ⟨rfl, h.symm⟩)⟩
    | j+3, h =>
      simp at h
      obtain ⟨k, s, hs, hh⟩ := ih j h
      refine ⟨k+1, s, by simpa using hs, ?_⟩
      rcases hh with ⟨e, hu⟩ | ⟨e, hu⟩ | ⟨e, hu⟩
      · exact .inl ⟨by omega, hu⟩
      · exact .inr (.inl ⟨by omega, hu⟩)
      · exact .inr (.inr ⟨by omega, hu⟩)
theorem Rd.cells {w : World} {B : Nat} {A : Option Addr} {l : List S} (h : Rd w B A l) : ∀ ad, A = some ad → ∀ j u, (cells l)[j]? = some u → w.cell? (ad.add j) = some u := by
  intro ad hA j u hu
  obtain ⟨k, s, hs, hh⟩ := cells_inv l j u hu
  obtain ⟨b, off, e, _, c0, c1, c2⟩ := h k s hs
  rw [hA] at e
  cases e
  have hadd : ∀ i, (⟨b, off, none⟩ : Addr).add i = ⟨b, off + i, none⟩ := fun i => by unfold Addr.add; split <;> simp_all
  rw [hadd]
  rcases hh with ⟨e, hu⟩ | ⟨e, hu⟩ | ⟨e, hu⟩
  · rw [e, hu]; exact c0
  · rw [e, hu, ← Nat.add_assoc]; exact c1
  · rw [e, hu, ← Nat.add_assoc]; exact c2
theorem RdB.cells' {w : World} {B : Nat} {A : Option Addr} {l : List Int} (h : RdB w B A l) : ∀ ad, A = some ad → ∀ j u, (bcells l)[j]? = some u → w.cell? (ad.add j) = some u := by
  intro ad hA j u hu
  rw [bcells_get] at hu
  obtain ⟨v, hv, rfl⟩ := Option.map_eq_some_iff.1 hu
  obtain ⟨b', off', e, hb, hc⟩ := h _ _ hv
  rw [hA] at e
  cases e
  have hadd : (⟨b', off', none⟩ : Addr).add j = ⟨b', off' + j, none⟩ := by unfold Addr.add; split <;> simp_all
  rw [hadd]; exact hc
/-- Behind an append of a list of scraps to the call's own row. -/
theorem appL_step {w wr W0 w1 : World} {BB n m c : Nat} {A' : Option Addr} {L K : List S} {v' : Value} (hown : Own wr BB A' n c L) (hb : Below BB w wr) (hsz : BB ≤ wr.heap.size)
    (hW : Below wr.heap.size wr W0) (hK : K.length = m) (hown' : w1.ownsRow BB 80 3 v' (n+m) (Go.Proofs.YtblibmalommdkaaGreat.Sc.cells L ++ Go.Proofs.YtblibmalommdkaaGreat.Sc.cells K)) (hg : W0.grownBy w1 (Value.slice A' n c).ownBlock) :
    (∃ A'' c'', v' = .slice A'' (n+m) c'' ∧ Own w1 BB A'' (n+m) c'' (L ++ K)) ∧ Below BB w w1 ∧ Below BB wr w1 ∧ W0.heap.size ≤ w1.heap.size ∧ (∀ g o, wr.heap.size ≤ g → g < W0.heap.size → w1.cell? ⟨g, o, none⟩ = W0.cell? ⟨g, o, none⟩) := by
  have hr : ∀ k, (Value.slice A' n c).ownBlock = some k → BB ≤ k ∧ k < wr.heap.size := hown.2.lt
  refine ⟨?_, ?_, (hW.mono hsz).grown hg (by have := hW.size; omega) (fun k hk => (hr k hk).1), hg.size, ?_⟩
  · obtain ⟨A'', c'', rfl⟩ := ext_of_own hown'
    exact ⟨A'', c'', rfl, by simp [hown.1, hK], by rw [cells_append]; exact hown'⟩
  · exact (hb.trans (hW.mono hsz)).grown hg (by have := hW.size; omega) (fun k hk => (hr k hk).1)
  · intro g o h1 h2
    exact World.cell?_of_block (w := W0) (a := ⟨g, o, none⟩) (hg.block g h2 (fun e => by have := (hr g e.symm).2; omega))
theorem Own.none {w : World} {base : Nat} {A : Option Addr} {n c : Nat} {l : List S} (h : Own w base A n c l) : A = .none → n = 0 ∧ c = 0 := by
  intro hA
  rcases h.nilOr with ⟨_, h2, h3⟩ | ⟨g, h1, _⟩
  · exact ⟨h2, h3⟩
  · rw [hA] at h1; cases h1
theorem OwnB.none {w : World} {base : Nat} {A : Option Addr} {n c : Nat} {l : List Int} (h : OwnB w base A n c l) : A = .none → n = 0 ∧ c = 0 := by
  intro hA
  rcases h.2.2 with ⟨hv, hn'⟩ | ⟨g, cap', cur, hv, _⟩
  · injection hv with ha hn hc
    exact ⟨hn', hc⟩
  · injection hv with ha _ _
    rw [hA] at ha; cases ha
/-- An empty slice that is not nil. -/
theorem Own.empty (w : World) (base g : Nat) (h : base ≤ w.heap.size) (hg : g = w.heap.size) : Own (w.alloc (.cells #[] 80)) base (some ⟨g, 0, .none⟩) 0 0 [] := by
  subst hg
  exact ⟨rfl, World.ownsRow_made w #[] 0 h (by decide) rfl⟩
end Go.Proofs.YtblibmalommdkaaGreat.Sc

/-
  An append to a row of the call's own leaves it in its block, or moves it to a new one: so two rows of one call stay apart. No program in sight.
-/
namespace Go
/-- Where an append to a row of the call's own leaves the row. -/
theorem run_append_block {P : Program} (w : World) (base : Nat) (t ty e : TypeId) (i : TypeInfo) (z : Value) (size bytes : Nat) (ht : P.underlying t = some (.slice e)) (hi : P.info? e = some i) (hz : i.zero = some z)
    (hsize : i.size = size) (hby : i.bytes = bytes) (v : Value) (n : Nat) (xs : List Value) (hown : w.ownsRow base e size v n xs)
    (a : Addr) (m c : Nat) (news : List Value) (hl : news.length = m * size) (hnews : ∀ j u, news[j]? = some u → w.cell? (a.add j) = some u) (h1 : ∀ u ∈ news, u.oneCell' = true)
    (h63 : n + m ≤ maxLen) (hbytes : (n + m) * bytes ≤ 140737488355328) {v' : Value} {w' : World} (hr : (Builtin.append_ #[t, t] ty #[v, .slice (some a) m c]).run P w = .ok v' w') :
    v'.ownBlock = v.ownBlock ∨ v'.ownBlock = some w.heap.size := by
  subst hsize
  subst hby
  have hsmall : n + m ≤ 9223372036854775807 := by simp only [maxLen] at h63; omega
  rcases hown.2 with ⟨rfl, rfl⟩ | ⟨g, cap, cur, rfl, hbg, hg, hnc, hcm, hcs, htake⟩
  · by_cases hm : m = 0
    · subst hm
      left
      have hn : news = [] := List.eq_nil_of_length_eq_zero (by simpa using hl)
      subst hn
      have hx : (Builtin.append_ #[t, t] ty #[.slice none 0 0, .slice (some a) 0 c]).run P w = .ok (.slice none 0 0) w := by
        simp [Builtin.append_, run_underlying ht, sizeOf, typeInfo, hi, Builtin.lenOf, Builtin.firstCells, loadCells, loadCellsFrom]
      rw [hx] at hr
      injection hr with h2 _
      rw [← h2]
    · right
      have hx := run_append_nil (P := P) w t ty e i z ht hi hz a m c news hl hnews (by omega) (by omega) (by simp only [Nat.zero_add] at hbytes; omega)
      rw [hx] at hr
      injection hr with h2 _
      rw [← h2]; rfl
  · by_cases hroom : n + m ≤ cap
    · left
      have hfit : n * i.size + news.length ≤ cur.size := by rw [hl, hcs, ← Nat.add_mul]; exact Nat.mul_le_mul_right _ hroom
      have hx := run_append_room (P := P) w t ty e i ht hi g n cap cur hg a m c news hl hnews h1 hroom hfit
      rw [hx] at hr
      injection hr with h2 _
      rw [← h2]; rfl
    · right
      have holds : ∀ j u, xs[j]? = some u → w.cell? ((⟨g, 0, none⟩ : Addr).add j) = some u := hown.cells (g := g) rfl
      have hx := run_append_grow (P := P) w t ty e i z ht hi hz ⟨g, 0, none⟩ n cap xs hown.1 holds a m c news hl hnews (by omega) (by omega) (growslice_fits (by omega) hbytes)
      rw [hx] at hr
      injection hr with h2 _
      rw [← h2]; rfl
theorem wpList_append_block {P : Program} {w : World} {ops : Array Oper} {rest : List Oper} {o : Oper} {a : Act} {Q : Exit → Act → World → Prop} (hgd : o.guard = none) (s x : Operand) (t : TypeId)
    (ho : o.op = .call { callee := .builtin .append, args := #[s, x], argTypes := #[t, t] })
    (base : Nat) (e : TypeId) (i : TypeInfo) (z : Value) (size bytes : Nat) (ht : P.underlying t = some (.slice e)) (hi : P.info? e = some i) (hz : i.zero = some z)
    (hsize : i.size = size) (hby : i.bytes = bytes) (hzs : z.cells.size = size) (hsz : 0 < size)
    (v : Value) (n : Nat) (xs : List Value) (hs : a.eval s = v) (hown : w.ownsRow base e size v n xs)
    (ad : Addr) (m c : Nat) (news : List Value) (hx : a.eval x = .slice (some ad) m c) (hl : news.length = m * size) (hnews : ∀ j u, news[j]? = some u → w.cell? (ad.add j) = some u) (h1 : ∀ u ∈ news, u.oneCell' = true)
    (h63 : n + m ≤ maxLen) (hbytes : (n + m) * bytes ≤ 140737488355328) (hbase : base ≤ w.heap.size)
    (h : ∀ v' w', w'.ownsRow base e size v' (n + m) (xs ++ news) → w.grownBy w' v.ownBlock → (v'.ownBlock = v.ownBlock ∨ v'.ownBlock = some w.heap.size) → wpList P ops Q rest (a.put o.dst v') w') : wpList P ops Q (o :: rest) a w := by
  refine wpList_plain hgd fun K hK => ?_
  obtain ⟨v', w', hr, h2, h3, h4⟩ := run_append_own (P := P) w base t o.type e i z size bytes ht hi hz hsize hby hzs hsz v n xs hown ad m c news hl hnews h1 h63 hbytes hbase
  have h5 := run_append_block (P := P) w base t o.type e i z size bytes ht hi hz hsize hby v n xs hown ad m c news hl hnews h1 h63 hbytes hr
  unfold Oper.wp execOp
  simp only [ho, resolve, invoke, builtin, Sem.run_bind, Sem.run_pure, Result.andThen_ok, List.map_toArray, List.map_cons, List.map_nil, hs, hx, hr]
  exact hK _ _ (h v' w' h2 h3 h5)
end Go
namespace Go.Proofs.YtblibmalommdkaaGreat.Sc
open Go.RowKit
/-- Two rows of one call do not share a block. -/
def Apart (A B : Option Addr) : Prop := ∀ a b, A = some a → B = some b → a.block ≠ b.block
theorem Apart.nil_left (B : Option Addr) : Apart none B := fun a b h _ => by cases h
theorem Apart.symm {A B : Option Addr} (h : Apart A B) : Apart B A := fun a b ha hb e => h b a hb ha e.symm
/-- Behind an append of one scrap to one of two rows of the call's own. -/
theorem app2_step {w wr W0 w1 : World} {BB n c n2 c2 : Nat} {A' B' : Option Addr} {L L2 : List S} {s' : S} {v' : Value} (hown : Own wr BB A' n c L) (hown2 : Own wr BB B' n2 c2 L2) (hap : Apart A' B') (hb : Below BB w wr) (hsz : BB ≤ wr.heap.size)
    (hW : Below wr.heap.size wr W0) (hown' : w1.ownsRow BB 80 3 v' (n+1) (cells L ++ cells [s'])) (hg : W0.grownBy w1 (Value.slice A' n c).ownBlock)
    (hbl : v'.ownBlock = (Value.slice A' n c).ownBlock ∨ v'.ownBlock = some W0.heap.size) :
    (∃ A'' c'', v' = .slice A'' (n+1) c'' ∧ Own w1 BB A'' (n+1) c'' (L ++ [s']) ∧ Apart A'' B') ∧ Own w1 BB B' n2 c2 L2 ∧ Below BB w w1 ∧ W0.heap.size ≤ w1.heap.size ∧ (∀ g o, wr.heap.size ≤ g → g < W0.heap.size → w1.cell? ⟨g, o, none⟩ = W0.cell? ⟨g, o, none⟩) := by
  obtain ⟨⟨A'', c'', hv, ho⟩, hb1, hb2, hz, hcl⟩ := app_step hown hb hsz hW hown' hg
  have hr2 : ∀ k, (Value.slice B' n2 c2).ownBlock = some k → BB ≤ k ∧ k < wr.heap.size := hown2.2.lt
  refine ⟨⟨A'', c'', hv, ho, ?_⟩, ?_, hb1, hz, hcl⟩
  · subst hv
    intro a b ha hb'
    subst ha; subst hb'
    have h2 := (hr2 b.block rfl).2
    rcases hbl with h | h
    · cases A' with
      | none => cases h
      | some a' =>
        simp only [Value.ownBlock, Option.some.injEq] at h
        rw [h]
        exact hap a' b rfl rfl
    · simp only [Value.ownBlock, Option.some.injEq] at h
      have := hW.size
      omega
  · have h3 := hown2.below hW (Nat.le_refl _)
    refine ⟨h3.1, h3.2.kept hg ?_⟩
    cases B' with
    | none => left; rfl
    | some b =>
      right
      cases A' with
      | none => simp [Value.ownBlock]
      | some a =>
        have := hap a b rfl rfl
        simp only [Value.ownBlock, ne_eq, Option.some.injEq]
        exact fun e => this e.symm
end Go.Proofs.YtblibmalommdkaaGreat.Sc
