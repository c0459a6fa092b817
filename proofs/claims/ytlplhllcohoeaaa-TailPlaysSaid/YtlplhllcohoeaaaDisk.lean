/-
  A disk in memory that holds no file or the one of the name tail: its struct, its file, what is pending. No walk.
-/
import Derived.Test.YtlplhllcohoeaaaMaps
namespace Go.Proofs.Ytlplhllcohoeaaa
open Go.RowKit
/-- A file: its bytes, those that are safe, whether it was safe once. -/
structure Fl where
  now : List Int
  safe : List Int
  sure : Bool
/-- A disk: its room, how many changes were made and are left, whether one waits for the loss of power, whether it is off, the file. -/
structure Dv where
  room : Int
  chg : Int
  left : Int
  armed : Bool
  down : Bool
  f : Option Fl
theorem RdB.keepS {w w' : World} {B B' : Nat} {A : Option Addr} {l : List Int} (h : RdB w B A l) (hB : B ≤ B') (hk : ∀ a, A = some a → w'.heap[a.block]? = w.heap[a.block]?) : RdB w' B' A l := by
  intro k s hs
  obtain ⟨b, off, e, hb, h0⟩ := h k s hs
  exact ⟨b, off, e, by omega, (World.cell?_of_block (w := w) (a := ⟨b, off + k, none⟩) (hk ⟨b, off, none⟩ e)).trans h0⟩
theorem OwnB.keepS {w w' : World} {base : Nat} {A : Option Addr} {n c : Nat} {l : List Int} (h : OwnB w base A n c l) (hk : ∀ a, A = some a → w'.heap[a.block]? = w.heap[a.block]?) : OwnB w' base A n c l := by
  obtain ⟨h0, h1, h2⟩ := h
  refine ⟨h0, h1, ?_⟩
  rcases h2 with h2 | ⟨g, cap, cur, hv, hb, hg, r⟩
  · exact .inl h2
  · injection hv with ha hn hc
    subst ha
    exact .inr ⟨g, cap, cur, by rw [hc], hb, (hk _ rfl).trans hg, r⟩
/-- A file in memory at block fb; S: the disk's blocks. -/
structure FileAt (w : World) (S : Nat → Prop) (fb : Nat) (f : Fl) (An : Option Addr) (cn : Nat) (As : Option Addr) (cs : Nat) : Prop where
  head : w.heap[fb]? = some (.cells #[.slice An f.now.length cn, .slice As f.safe.length cs, .bool f.sure] 65 (0, 0))
  now : OwnB w 0 An f.now.length cn f.now
  safe : OwnB w 0 As f.safe.length cs f.safe
  sf : S fb
  sn : ∀ a, An = some a → S a.block
  ss : ∀ a, As = some a → S a.block
  ne : ∀ a b, An = some a → As = some b → a.block ≠ b.block
  ln : f.now.length ≤ 1099511627776
  ls : f.safe.length ≤ 1099511627776
/-- A piece that is pending: at or behind the place lo; a cut, or bytes. -/
def PieceAt (w : World) (S : Nat → Prop) (lo : Int) (at_ : Int) (v : Value) : Prop :=
  lo ≤ at_ ∧ 0 ≤ at_ ∧ at_ ≤ 1099511627776 ∧ (v = .slice none 0 0 ∨ ∃ (a : Addr) (l : List Int) (c : Nat), v = .slice (some a) l.length c ∧ OwnB w 0 (some a) l.length c l ∧ S a.block ∧ (0 < l.length ∧ at_ + l.length ≤ 1099511627776))
def pcells (l : List (Int × Value)) : List Value := l.flatMap fun p => [.string tl, .int .i64 p.1, p.2]
structure PendAt (w : World) (S : Nat → Prop) (lo : Int) (Ap : Option Addr) (np cp : Nat) (ps : List (Int × Value)) : Prop where
  row : w.ownsRow 0 74 3 (.slice Ap np cp) np (pcells ps)
  len : ps.length = np
  all : ∀ p ∈ ps, PieceAt w S lo p.1 p.2
  sp : ∀ a, Ap = some a → S a.block
/-- A piece's bytes do not lie where the file's do. -/
def Apart (An : Option Addr) (v : Value) : Prop := ∀ a n c b, v = .slice (some a) n c → An = some b → b.block ≠ a.block
/-- The disk in memory. -/
structure Dk (w : World) (db mb : Nat) (d : Dv) (lo : Int) (N : Nat) (S : Nat → Prop) (F : Option Nat) (Ap : Option Addr) (np cp : Nat) (ps : List (Int × Value)) : Prop where
  head : w.heap[db]? = some (.cells #[.int .i64 d.room, .int .i64 d.chg, .int .i64 d.left, .bool d.armed, .bool d.down, .map (some mb), .slice Ap np cp] 59 (0, 0))
  map : FM w mb F
  file : (F = none ∧ d.f = none) ∨ ∃ fb f An cn As cs, F = some fb ∧ d.f = some f ∧ FileAt w S fb f An cn As cs ∧ (∀ p ∈ ps, Apart An p.2)
  pend : PendAt w S lo Ap np cp ps
  pn : np ≤ N
  sd : S db
  sm : S mb
  lt : ∀ g, S g → g < w.heap.size
  rm : 0 ≤ d.room ∧ d.room ≤ 1099511627776
  cg : 0 ≤ d.chg ∧ d.chg ≤ N
  lf : -(N : Int) ≤ d.left ∧ d.left ≤ 9223372036854775807
theorem FileAt.keep {w w' : World} {S : Nat → Prop} {fb : Nat} {f : Fl} {An : Option Addr} {cn : Nat} {As : Option Addr} {cs : Nat} (h : FileAt w S fb f An cn As cs) (hk : ∀ g, S g → w'.heap[g]? = w.heap[g]?) : FileAt w' S fb f An cn As cs :=
  ⟨(hk _ h.sf).trans h.head, h.now.keepS fun a e => hk _ (h.sn a e), h.safe.keepS fun a e => hk _ (h.ss a e), h.sf, h.sn, h.ss, h.ne, h.ln, h.ls⟩
theorem PieceAt.keep {w w' : World} {S : Nat → Prop} {lo at_ : Int} {v : Value} (h : PieceAt w S lo at_ v) (hk : ∀ g, S g → w'.heap[g]? = w.heap[g]?) : PieceAt w' S lo at_ v := by
  obtain ⟨h0, h1, h2, h3⟩ := h
  refine ⟨h0, h1, h2, ?_⟩
  rcases h3 with h3 | ⟨a, l, c, e, hr, hS, hl⟩
  · exact .inl h3
  · exact .inr ⟨a, l, c, e, hr.keepS (fun a' e' => by cases e'; exact hk _ hS), hS, hl⟩
theorem row_keep {w w' : World} {base e sz n c : Nat} {A : Option Addr} {xs : List Value} (h : w.ownsRow base e sz (.slice A n c) n xs) (hk : ∀ a, A = some a → w'.heap[a.block]? = w.heap[a.block]?) : w'.ownsRow base e sz (.slice A n c) n xs := by
  obtain ⟨h1, h2⟩ := h
  refine ⟨h1, ?_⟩
  rcases h2 with h2 | ⟨g, cap, cur, hv, hb, hg, r⟩
  · exact .inl h2
  · injection hv with ha hn hc
    subst ha
    exact .inr ⟨g, cap, cur, by rw [hc], hb, (hk _ rfl).trans hg, r⟩
theorem PendAt.keep {w w' : World} {S : Nat → Prop} {lo : Int} {Ap : Option Addr} {np cp : Nat} {ps : List (Int × Value)} (h : PendAt w S lo Ap np cp ps) (hk : ∀ g, S g → w'.heap[g]? = w.heap[g]?) : PendAt w' S lo Ap np cp ps :=
  ⟨row_keep h.row fun a e => hk _ (h.sp a e), h.len, fun p hp => (h.all p hp).keep hk, h.sp⟩
theorem Dk.keep {w w' : World} {db mb : Nat} {d : Dv} {lo : Int} {N : Nat} {S : Nat → Prop} {F : Option Nat} {Ap : Option Addr} {np cp : Nat} {ps : List (Int × Value)} (h : Dk w db mb d lo N S F Ap np cp ps) (hs : w.heap.size ≤ w'.heap.size) (hk : ∀ g, S g → w'.heap[g]? = w.heap[g]?) : Dk w' db mb d lo N S F Ap np cp ps := by
  obtain ⟨h1, h2, h3, h4, h5, h6, h7, h8, h9, h10, h11⟩ := h
  refine ⟨(hk _ h6).trans h1, h2.same (hk _ h7), ?_, h4.keep hk, h5, h6, h7, fun g hg => by have := h8 g hg; omega, h9, h10, h11⟩
  rcases h3 with h3 | ⟨fb, f, An, cn, As, cs, e1, e2, h3, h3'⟩
  · exact .inl h3
  · exact .inr ⟨fb, f, An, cn, As, cs, e1, e2, h3.keep hk, h3'⟩
/-- What a call on the disk does to the others' blocks: nothing; and it takes none of them. -/
structure Fr (w w' : World) (S S' : Nat → Prop) : Prop where
  os : w'.os = w.os
  tape : w'.tape = w.tape
  output : w'.output = w.output
  size : w.heap.size ≤ w'.heap.size
  beside : ∀ g, g < w.heap.size → ¬ S g → w'.heap[g]? = w.heap[g]? ∧ ¬ S' g
theorem Fr.refl (w : World) (S : Nat → Prop) : Fr w w S S := ⟨rfl, rfl, rfl, Nat.le_refl _, fun _ _ h => ⟨rfl, h⟩⟩
theorem Fr.trans {w w1 w2 : World} {S S1 S2 : Nat → Prop} (h : Fr w w1 S S1) (h' : Fr w1 w2 S1 S2) : Fr w w2 S S2 :=
  ⟨h'.os.trans h.os, h'.tape.trans h.tape, h'.output.trans h.output, Nat.le_trans h.size h'.size, fun g h1 h2 => by
    obtain ⟨a, b⟩ := h.beside g h1 h2
    obtain ⟨c, e⟩ := h'.beside g (Nat.lt_of_lt_of_le h1 h.size) b
    exact ⟨c.trans a, e⟩⟩
theorem Fr.below {w w' : World} {S S' : Nat → Prop} {B : Nat} (h : Fr w w' S S') (hB : B ≤ w.heap.size) (hS : ∀ g, g < B → ¬ S g) : Below B w w' :=
  ⟨h.os, h.tape, h.output, h.size, fun k hk => (h.beside k (by omega) (hS k hk)).1⟩
theorem Fr.of_below {w w' : World} {S : Nat → Prop} (h : Below w.heap.size w w') : Fr w w' S S := ⟨h.os, h.tape, h.output, h.size, fun g hg hS => ⟨h.block g hg, hS⟩⟩
end Go.Proofs.Ytlplhllcohoeaaa
