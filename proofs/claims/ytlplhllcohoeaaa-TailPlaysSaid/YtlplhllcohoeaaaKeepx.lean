/-
  The disk's parts where some blocks are changed and others come up. No walk.
-/
import Derived.Test.YtlplhllcohoeaaaWalkd
namespace Go.Proofs.Ytlplhllcohoeaaa
open Go.RowKit
/-- The blocks of X stay as they were, but those of X; the rest of the world stays. -/
structure Only (w w' : World) (X : Nat → Prop) : Prop where
  os : w'.os = w.os
  tape : w'.tape = w.tape
  output : w'.output = w.output
  size : w.heap.size ≤ w'.heap.size
  rest : ∀ g, g < w.heap.size → ¬ X g → w'.heap[g]? = w.heap[g]?
theorem Only.refl (w : World) (X : Nat → Prop) : Only w w X := ⟨rfl, rfl, rfl, Nat.le_refl _, fun _ _ _ => rfl⟩
theorem Only.trans {w w1 w2 : World} {X : Nat → Prop} (h : Only w w1 X) (h' : Only w1 w2 X) : Only w w2 X :=
  ⟨h'.os.trans h.os, h'.tape.trans h.tape, h'.output.trans h.output, Nat.le_trans h.size h'.size, fun g h1 h2 => (h'.rest g (Nat.lt_of_lt_of_le h1 h.size) h2).trans (h.rest g h1 h2)⟩
theorem Only.mono {w w' : World} {X Y : Nat → Prop} (h : Only w w' X) (hXY : ∀ g, g < w.heap.size → X g → Y g) : Only w w' Y := ⟨h.os, h.tape, h.output, h.size, fun g h1 h2 => h.rest g h1 fun hx => h2 (hXY g h1 hx)⟩
theorem Only.of_below {w w' : World} {X : Nat → Prop} (h : Below w.heap.size w w') : Only w w' X := ⟨h.os, h.tape, h.output, h.size, fun g hg _ => h.block g hg⟩
theorem Only.of_set (w : World) (a : Addr) (v : Value) : Only w (w.setCell a v) (fun g => g = a.block) := ⟨rfl, rfl, rfl, by simp, fun _ _ hg => heap_setCell_other _ _ _ _ hg⟩
theorem Only.of_grown {w w' : World} {row : Option Nat} (h : w.grownBy w' row) : Only w w' (fun g => some g = row) := ⟨h.os, h.tape, h.output, h.size, fun g hg hx => h.block g hg hx⟩
theorem Fr.only {w w' : World} {S S' : Nat → Prop} (h : Fr w w' S S') : Only w w' S := ⟨h.os, h.tape, h.output, h.size, fun g h1 h2 => (h.beside g h1 h2).1⟩
/-- S and what came up since w. -/
def Sx (S : Nat → Prop) (w w' : World) : Nat → Prop := fun g => S g ∨ (w.heap.size ≤ g ∧ g < w'.heap.size)
theorem Only.fr {w w' : World} {S : Nat → Prop} (h : Only w w' S) : Fr w w' S (Sx S w w') := ⟨h.os, h.tape, h.output, h.size, fun g h1 h2 => ⟨h.rest g h1 h2, fun h3 => h3.elim h2 fun h3 => by omega⟩⟩
theorem Sx.lt {S : Nat → Prop} {w w' : World} (h : ∀ g, S g → g < w.heap.size) (hs : w.heap.size ≤ w'.heap.size) : ∀ g, Sx S w w' g → g < w'.heap.size := fun g hg => hg.elim (fun h1 => Nat.lt_of_lt_of_le (h g h1) hs) fun h1 => h1.2
theorem RdB.keepP {w w' : World} {X : Nat → Prop} {A : Option Addr} {l : List Int} (h : RdB w w.heap.size A l) (hk : Only w w' X) (hx : ∀ a, A = some a → X a.block → ∀ o u, w.cell? ⟨a.block, o, none⟩ ≠ some (.int .u8 u)) : RdB w' w'.heap.size A l := by
  intro k s hs
  obtain ⟨b, off, e, hb, h0⟩ := h k s hs
  have hn : ¬ X b := fun hX => hx _ e hX _ _ h0
  exact ⟨b, off, e, Nat.lt_of_lt_of_le hb hk.size, (World.cell?_of_block (w := w) (a := ⟨b, off + k, none⟩) (hk.rest b hb hn)).trans h0⟩
theorem row_keepP {w w' : World} {X : Nat → Prop} {e sz n c : Nat} {A : Option Addr} {xs : List Value} (h : w.ownsRow 0 e sz (.slice A n c) n xs) (hk : Only w w' X) (hx : ∀ a, A = some a → ¬ X a.block) : w'.ownsRow 0 e sz (.slice A n c) n xs := by
  obtain ⟨h1, h2⟩ := h
  refine ⟨h1, ?_⟩
  rcases h2 with h2 | ⟨g, cap, cur, hv, hb, hg, r⟩
  · exact .inl h2
  · injection hv with ha hn hc
    subst ha
    exact .inr ⟨g, cap, cur, by rw [hc], hb, (hk.rest g (Array.getElem?_eq_some_iff.1 hg).1 (hx _ rfl)).trans hg, r⟩
theorem row_ty {w : World} {e sz n c : Nat} {a : Addr} {xs : List Value} (h : w.ownsRow 0 e sz (.slice (some a) n c) n xs) : ∃ cur, w.heap[a.block]? = some (.cells cur e (0, 0)) := by
  rcases h.2 with ⟨h2, _⟩ | ⟨g, cap, cur, hv, hb, hg, r⟩
  · cases h2
  · injection hv with ha hn hc
    injection ha with ha
    subst ha
    exact ⟨cur, hg⟩
theorem PieceAt.keepP {w w' : World} {X S S' : Nat → Prop} {lo at_ : Int} {v : Value} (h : PieceAt w S lo at_ v) (hk : Only w w' X) (hS : ∀ g, S g → S' g) (hx : ∀ a n c, v = .slice (some a) n c → ¬ X a.block) : PieceAt w' S' lo at_ v := by
  obtain ⟨h0, h1, h2, h3⟩ := h
  refine ⟨h0, h1, h2, ?_⟩
  rcases h3 with h3 | ⟨a, l, c, e, hr, hS1, hl⟩
  · exact .inl h3
  · exact .inr ⟨a, l, c, e, ⟨hr.1, row_keepP hr.2 hk (fun a' e' => by cases e'; exact hx _ _ _ e)⟩, hS _ hS1, hl⟩
theorem PendAt.keepP {w w' : World} {X S S' : Nat → Prop} {lo : Int} {Ap : Option Addr} {np cp : Nat} {ps : List (Int × Value)} (h : PendAt w S lo Ap np cp ps) (hk : Only w w' X) (hS : ∀ g, S g → S' g) (hp : ∀ a, Ap = some a → ¬ X a.block)
    (hx : ∀ p ∈ ps, ∀ a n c, p.2 = .slice (some a) n c → ¬ X a.block) : PendAt w' S' lo Ap np cp ps :=
  ⟨row_keepP h.row hk hp, h.len, fun p hp => (h.all p hp).keepP hk hS (hx p hp), fun a e => hS _ (h.sp a e)⟩
theorem FileAt.keepP {w w' : World} {X S S' : Nat → Prop} {fb : Nat} {f : Fl} {An : Option Addr} {cn : Nat} {As : Option Addr} {cs : Nat} (h : FileAt w S fb f An cn As cs) (hk : Only w w' X) (hS : ∀ g, S g → S' g) (hlt : fb < w.heap.size) (hfb : ¬ X fb) (hn : ∀ a, An = some a → ¬ X a.block)
    (hs : ∀ a, As = some a → ¬ X a.block) : FileAt w' S' fb f An cn As cs :=
  ⟨(hk.rest _ hlt hfb).trans h.head, ⟨h.now.1, row_keepP h.now.2 hk hn⟩, ⟨h.safe.1, row_keepP h.safe.2 hk hs⟩, hS _ h.sf, fun a e => hS _ (h.sn a e), fun a e => hS _ (h.ss a e), h.ne, h.ln, h.ls⟩
/-- No cell of bytes lies in such a block. -/
theorem nob {w : World} {x : Nat} {cs : Array Value} {t : TypeId} (h : w.heap[x]? = some (.cells cs t (0, 0))) (hn : ∀ u ∈ cs.toList, ∀ v, u ≠ .int .u8 v) : ∀ o u, w.cell? ⟨x, o, none⟩ ≠ some (.int .u8 u) := (cells_odd h hn).nb
section
variable {w w' : World} {db mb : Nat} {d : Dv} {lo : Int} {N : Nat} {S : Nat → Prop} {F : Option Nat} {Ap : Option Addr} {np cp : Nat} {ps : List (Int × Value)}
theorem Dk.wide (h : Dk w db mb d lo N S F Ap np cp ps) {S' : Nat → Prop} (hS : ∀ g, S g → S' g) (hlt : ∀ g, S' g → g < w.heap.size) : Dk w db mb d lo N S' F Ap np cp ps := by
  refine ⟨h.head, h.map, ?_, ⟨h.pend.row, h.pend.len, fun p hp => ?_, fun a e => hS _ (h.pend.sp a e)⟩, h.pn, hS _ h.sd, hS _ h.sm, hlt, h.rm, h.cg, h.lf⟩
  · rcases h.file with h3 | ⟨fb, f, An, cn, As, cs, e1, e2, h3, h4⟩
    · exact .inl h3
    · exact .inr ⟨fb, f, An, cn, As, cs, e1, e2, ⟨h3.head, h3.now, h3.safe, hS _ h3.sf, fun a e => hS _ (h3.sn a e), fun a e => hS _ (h3.ss a e), h3.ne, h3.ln, h3.ls⟩, h4⟩
  · exact (h.pend.all p hp).keepP (X := fun _ => False) (Only.refl _ _) hS (fun _ _ _ _ hf => hf)
end
end Go.Proofs.Ytlplhllcohoeaaa
