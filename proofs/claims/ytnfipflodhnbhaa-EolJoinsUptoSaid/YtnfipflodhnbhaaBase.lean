/-
  Slices of bytes in memory: read, owned; line ends of a list of bytes. No program in sight.
-/
import Derived.WalkKit
import Derived.WalkSpells
import Derived.ProofKit
import Derived.Lib.Hide
import Derived.Laws.AppendOwnNone
import Derived.Deep.Draws
namespace Go.Proofs.Ytnfipflodhnbhaa
open Go.RowKit
theorem take_snoc {α : Type} (l : List α) (k : Nat) (s : α) (h : l[k]? = some s) : l.take (k+1) = l.take k ++ [s] := by
  rw [List.take_add_one, h]; rfl
theorem get_some {α : Type} (l : List α) (k : Nat) (h : k < l.length) : ∃ s, l[k]? = some s := ⟨_, List.getElem?_eq_getElem h⟩

theorem cell_new (w : World) (cs : Array Value) (t : TypeId) (j : Nat) : (w.alloc (.cells cs t)).cell? ⟨w.heap.size, j, none⟩ = cs[j]? := cell_of_row _ _ j cs t (0, 0) (heap_alloc_new w _)
theorem ret_int {k : IntKind} {a b : Int} (h : a = b) : Ending.returned (.int k a) = .returned (.int k b) := by rw [h]
theorem ret_bool {a b : Bool} (h : a = b) : Ending.returned (.bool a) = .returned (.bool b) := by rw [h]
theorem belowDrewN {B : Nat} {a w : World} (h : Below B a w) (n : Nat) : Below B a (w.drewN n) := ⟨h.os, h.tape, h.output, h.size, h.block⟩
theorem below_up {w w1 w2 : World} (h : Below w.heap.size w w1) (h' : Below w1.heap.size w1 w2) : Below w.heap.size w w2 := h.trans (h'.mono h.size)
def bcells (l : List Int) : List Value := l.map (Value.int .u8)
theorem bcells_get (l : List Int) (k : Nat) : (bcells l)[k]? = (l[k]?).map (Value.int .u8) := by simp [bcells]
theorem bcells_one (l : List Int) : ∀ u ∈ bcells l, u.oneCell' = true := by
  intro u hu
  obtain ⟨x, _, rfl⟩ := List.mem_map.1 hu
  rfl
/-- A slice of bytes that reads as a list, nil let in. -/
def RdB (w : World) (B : Nat) (A : Option Addr) (l : List Int) : Prop :=
  ∀ k v, l[k]? = some v → ∃ b off, A = some ⟨b, off, none⟩ ∧ b < B ∧ w.cell? ⟨b, off + k, none⟩ = some (.int .u8 v)
theorem RdB.keep {w w' : World} {B : Nat} {A : Option Addr} {l : List Int} (h : RdB w B A l) (hk : ∀ p : Addr, p.block < B → w'.cell? p = w.cell? p) : RdB w' B A l := by
  intro k s hs
  obtain ⟨b, off, e, hb, h0⟩ := h k s hs
  exact ⟨b, off, e, hb, (hk _ hb).trans h0⟩
theorem RdB.below {w w' : World} {B B' : Nat} {A : Option Addr} {l : List Int} (h : RdB w B A l) (hb : Below B' w w') (hB : B ≤ B') : RdB w' B A l := h.keep fun _ hp => hb.cell (by omega)
theorem RdB.more {w : World} {B B' : Nat} {A : Option Addr} {l : List Int} (h : RdB w B A l) (hB : B ≤ B') : RdB w B' A l := by
  intro k s hs
  obtain ⟨b, off, e, hb, hh⟩ := h k s hs
  exact ⟨b, off, e, by omega, hh⟩
theorem RdB.up {w w' : World} {A : Option Addr} {l : List Int} (h : RdB w w.heap.size A l) (hb : Below w.heap.size w w') : RdB w' w'.heap.size A l := (h.below hb (Nat.le_refl _)).more hb.size
theorem RdB.alloc {w : World} {B : Nat} {A : Option Addr} {l : List Int} (h : RdB w B A l) (hB : B ≤ w.heap.size) (o : Obj) : RdB (w.alloc o) B A l := h.keep fun p hp => World.cell?_alloc_lt w o p (by omega)
theorem RdB.nil (w : World) (B : Nat) (A : Option Addr) : RdB w B A [] := fun k s hs => by simp at hs
theorem RdB.drewN {w : World} {B : Nat} {A : Option Addr} {l : List Int} (h : RdB w B A l) (n : Nat) : RdB (w.drewN n) B A l := h
/-- A piece of a row that is not empty. -/
theorem RdB.piece {w : World} {B b off : Nat} {l : List Int} (h : RdB w B (some ⟨b, off, none⟩) l) (i n : Nat) : RdB w B (some ⟨b, off + i, none⟩) ((l.drop i).take n) := by
  intro k v hv
  rw [List.getElem?_take] at hv
  split at hv
  · rw [List.getElem?_drop] at hv
    obtain ⟨b', off', e, hb, hc⟩ := h _ _ hv
    cases e
    exact ⟨b, off + i, rfl, hb, by rw [Nat.add_assoc]; exact hc⟩
  · cases hv
theorem RdB.cells {w : World} {B b off : Nat} {l : List Int} (h : RdB w B (some ⟨b, off, none⟩) l) : ∀ j u, (bcells l)[j]? = some u → w.cell? ((⟨b, off, none⟩ : Addr).add j) = some u := by
  intro j u hu
  rw [bcells_get] at hu
  obtain ⟨v, hv, rfl⟩ := Option.map_eq_some_iff.1 hu
  obtain ⟨b', off', e, hb, hc⟩ := h _ _ hv
  cases e
  have hadd : (⟨b, off, none⟩ : Addr).add j = ⟨b, off + j, none⟩ := by unfold Addr.add; split <;> simp_all
  rw [hadd]; exact hc
/-- The call's own row of bytes. -/
def OwnB (w : World) (base : Nat) (A : Option Addr) (n cap : Nat) (l : List Int) : Prop := l.length = n ∧ w.ownsRow base 5 1 (.slice A n cap) n (bcells l)
theorem OwnB.rd {w : World} {base : Nat} {A : Option Addr} {n cap : Nat} {l : List Int} (h : OwnB w base A n cap l) : RdB w w.heap.size A l := by
  obtain ⟨hl, h⟩ := h
  intro k s hs
  have hk : k < l.length := (List.getElem?_eq_some_iff.1 hs).1
  have h2 := h.2
  rcases h2 with ⟨hv, hn⟩ | ⟨g, cap', cur, hv, hbg, hg, hr⟩
  · omega
  · injection hv with ha hn hc
    subst ha; subst hc
    have hlt : g < w.heap.size := (Array.getElem?_eq_some_iff.1 hg).1
    refine ⟨g, 0, rfl, hlt, ?_⟩
    rw [h.cellAt _ (by omega), bcells_get, Nat.zero_add, hs]; rfl
theorem OwnB.nil (w : World) (base : Nat) : OwnB w base none 0 0 [] := ⟨rfl, World.ownsRow_nil _ _ _ _⟩
theorem OwnB.below {w w' : World} {base : Nat} {A : Option Addr} {n cap B : Nat} {l : List Int} (h : OwnB w base A n cap l) (hb : Below B w w') (hB : w.heap.size ≤ B) : OwnB w' base A n cap l :=
  ⟨h.1, h.2.kept (row := none) ⟨hb.os, hb.tape, hb.output, hb.size, fun k hk _ => hb.block k (by omega)⟩ (by cases A <;> simp [Value.ownBlock])⟩
theorem OwnB.alloc {w : World} {base : Nat} {A : Option Addr} {n cap : Nat} {l : List Int} (h : OwnB w base A n cap l) (o : Obj) : OwnB (w.alloc o) base A n cap l := ⟨h.1, h.2.alloc o⟩
theorem OwnB.drewN {w : World} {base : Nat} {A : Option Addr} {n cap : Nat} {l : List Int} (h : OwnB w base A n cap l) (k : Nat) : OwnB (w.drewN k) base A n cap l := h
theorem OwnB.mono {w : World} {base base' : Nat} {A : Option Addr} {n cap : Nat} {l : List Int} (h : OwnB w base A n cap l) (hB : base' ≤ base) : OwnB w base' A n cap l := by
  obtain ⟨h0, h1, h2⟩ := h
  refine ⟨h0, h1, ?_⟩
  rcases h2 with h2 | ⟨g, cap', cur, hv, hbg, hr⟩
  · exact .inl h2
  · exact .inr ⟨g, cap', cur, hv, by omega, hr⟩
theorem OwnB.cap {w : World} {base : Nat} {A : Option Addr} {n cap : Nat} {l : List Int} (h : OwnB w base A n cap l) : n ≤ cap ∧ cap ≤ maxLen := by
  obtain ⟨hl, h1, h2⟩ := h
  rcases h2 with ⟨hv, hn'⟩ | ⟨g, cap', cur, hv, hbg, hg, hnc, hcm, _⟩
  · injection hv with _ hn hc
    subst hc; omega
  · injection hv with ha _ hc
    subst hc
    exact ⟨hnc, hcm⟩
theorem ext_of_ownB {w' : World} {base : Nat} {v : Value} {n : Nat} {xs : List Value} (h : w'.ownsRow base 5 1 v n xs) : ∃ A cap, v = .slice A n cap := by
  rcases h.2 with ⟨hv, hn⟩ | ⟨g, cap', cur, hv, _⟩
  · subst hn; exact ⟨_, _, hv⟩
  · exact ⟨_, _, hv⟩
/-- Behind an append of bytes to the call's own row. -/
theorem appB_step {w wr W0 w1 : World} {BB n m c : Nat} {A' : Option Addr} {L K : List Int} {v' : Value} (hown : OwnB wr BB A' n c L) (hb : Below BB w wr) (hsz : BB ≤ wr.heap.size)
    (hW : Below wr.heap.size wr W0) (hK : K.length = m) (hown' : w1.ownsRow BB 5 1 v' (n+m) (bcells L ++ bcells K)) (hg : W0.grownBy w1 (Value.slice A' n c).ownBlock) :
    (∃ A'' c'', v' = .slice A'' (n+m) c'' ∧ OwnB w1 BB A'' (n+m) c'' (L ++ K)) ∧ Below BB w w1 ∧ Below BB wr w1 ∧ W0.heap.size ≤ w1.heap.size ∧ (∀ g o, wr.heap.size ≤ g → g < W0.heap.size → w1.cell? ⟨g, o, none⟩ = W0.cell? ⟨g, o, none⟩) := by
  have hr : ∀ k, (Value.slice A' n c).ownBlock = some k → BB ≤ k ∧ k < wr.heap.size := hown.2.lt
  refine ⟨?_, ?_, (hW.mono hsz).grown hg (by have := hW.size; omega) (fun k hk => (hr k hk).1), hg.size, ?_⟩
  · obtain ⟨A'', c'', rfl⟩ := ext_of_ownB hown'
    exact ⟨A'', c'', rfl, by simp [hown.1, hK], by simpa [bcells] using hown'⟩
  · exact (hb.trans (hW.mono hsz)).grown hg (by have := hW.size; omega) (fun k hk => (hr k hk).1)
  · intro g o h1 h2
    exact World.cell?_of_block (w := W0) (a := ⟨g, o, none⟩) (hg.block g h2 (fun e => by have := (hr g e.symm).2; omega))
theorem newb_one (w : World) (v : Int) (g : Nat) (hg : g = w.heap.size) : ∀ j u, (bcells [v])[j]? = some u → (w.alloc (.cells #[.int .u8 v] 5)).cell? ((⟨g, 0, none⟩ : Addr).add j) = some u := by
  subst hg
  intro j u hu
  have hadd : (⟨w.heap.size, 0, none⟩ : Addr).add j = ⟨w.heap.size, j, none⟩ := by unfold Addr.add; split <;> simp_all
  rw [hadd, cell_new]
  simpa [bcells] using hu

/-! ### Line ends -/
def cnt (l : List Int) : Nat := l.countP (fun x => decide (x = 10))
theorem cnt_nil : cnt [] = 0 := rfl
theorem cnt_append (l m : List Int) : cnt (l ++ m) = cnt l + cnt m := by simp [cnt]
theorem cnt_take_succ {l : List Int} {k : Nat} {x : Int} (h : l[k]? = some x) : cnt (l.take (k+1)) = cnt (l.take k) + if x = 10 then 1 else 0 := by
  rw [take_snoc l k x h, cnt_append]
  congr 1
  by_cases hx : x = 10 <;> simp [cnt, hx]
theorem cnt_take_mono (l : List Int) {i j : Nat} (h : i ≤ j) : cnt (l.take i) ≤ cnt (l.take j) := by
  have e : l.take i = (l.take j).take i := by rw [List.take_take, Nat.min_eq_left h]
  rw [e]
  have h1 : cnt (l.take j) = cnt ((l.take j).take i) + cnt ((l.take j).drop i) := by rw [← cnt_append, List.take_append_drop]
  omega
theorem cnt_take_le (l : List Int) (i : Nat) : cnt (l.take i) ≤ cnt l := by
  have h1 : cnt l = cnt (l.take i) + cnt (l.drop i) := by rw [← cnt_append, List.take_append_drop]
  omega
theorem cnt_le (l : List Int) : cnt l ≤ l.length := List.countP_le_length
theorem cnt_take_le' (l : List Int) (i : Nat) : cnt (l.take i) ≤ i := by
  have := cnt_le (l.take i)
  rw [List.length_take] at this
  omega
/-- The place of the line end that has k others ahead of it. -/
def NthP (l : List Int) (k p : Nat) : Prop := l[p]? = some 10 ∧ cnt (l.take p) = k
theorem NthP.succ {l : List Int} {k p : Nat} (h : NthP l k p) : cnt (l.take (p+1)) = k + 1 := by
  rw [cnt_take_succ h.1, h.2]; rfl
theorem NthP.lt {l : List Int} {k p : Nat} (h : NthP l k p) : p < l.length := (List.getElem?_eq_some_iff.1 h.1).1
theorem NthP.lt_cnt {l : List Int} {k p : Nat} (h : NthP l k p) : k < cnt l := by
  have h1 := h.succ
  have := cnt_take_le l (p+1)
  omega
theorem NthP.uniq {l : List Int} {k p q : Nat} (h : NthP l k p) (h' : NthP l k q) : p = q := by
  have h1 := h.succ
  have h2 := h'.succ
  have h3 := h.2
  have h4 := h'.2
  rcases Nat.lt_trichotomy p q with hlt | he | hlt
  · have := cnt_take_mono l (show p + 1 ≤ q by omega); omega
  · exact he
  · have := cnt_take_mono l (show q + 1 ≤ p by omega); omega
/-- A line end stands ahead of a place just if its number is less than how many stand there. -/
theorem NthP.ahead {l : List Int} {k p at_ : Nat} (h : NthP l k p) : p < at_ ↔ k < cnt (l.take at_) := by
  have h1 := h.succ
  have h3 := h.2
  constructor
  · intro hlt; have := cnt_take_mono l (show p + 1 ≤ at_ by omega); omega
  · intro hk
    rcases Nat.lt_or_ge p at_ with hh | hh
    · exact hh
    · have := cnt_take_mono l hh; omega
end Go.Proofs.Ytnfipflodhnbhaa
