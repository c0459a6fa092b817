/-
  What an operation on some blocks leaves: the others, and that its blocks behind it are the ones that it had or new ones. No walk.
-/
import Derived.Test.YtobeppeadkoieaaWalkc
import Derived.Test.YtobeppeadkoieaaLists
namespace Go.Proofs.Ytobeppeadkoieaa
open Go.RowKit
def inA (A : Option Addr) (b : Nat) : Prop := A.map Addr.block = some b
theorem inA_some {a : Addr} {b : Nat} : inA (some a) b ↔ a.block = b := by simp [inA]
theorem inA_none {b : Nat} : ¬ inA none b := by simp [inA]
structure Fr (w w' : World) (S S' : Nat → Prop) : Prop where
  os : w'.os = w.os
  tape : w'.tape = w.tape
  output : w'.output = w.output
  size : w.heap.size ≤ w'.heap.size
  beside : ∀ g, g < w.heap.size → ¬ S g → w'.heap[g]? = w.heap[g]? ∧ ¬ S' g
theorem Fr.refl (w : World) (S : Nat → Prop) : Fr w w S S := ⟨rfl, rfl, rfl, Nat.le_refl _, fun _ _ h => ⟨rfl, h⟩⟩
theorem Fr.trans {w w1 w2 : World} {S S1 S2 : Nat → Prop} (h : Fr w w1 S S1) (h' : Fr w1 w2 S1 S2) : Fr w w2 S S2 :=
  ⟨h'.os.trans h.os, h'.tape.trans h.tape, h'.output.trans h.output, Nat.le_trans h.size h'.size, fun g h1 h2 => by
    obtain ⟨a, b⟩ := h.beside g h1 h2
    obtain ⟨c, e⟩ := h'.beside g (Nat.lt_of_lt_of_le h1 h.size) b
    exact ⟨c.trans a, e⟩⟩
theorem Fr.of_below {w w' : World} {S : Nat → Prop} (h : Below w.heap.size w w') : Fr w w' S S := ⟨h.os, h.tape, h.output, h.size, fun g hg hS => ⟨h.block g hg, hS⟩⟩
theorem Fr.below {w w' : World} {S S' : Nat → Prop} {B : Nat} (h : Fr w w' S S') (hB : B ≤ w.heap.size) (hS : ∀ g, g < B → ¬ S g) : Below B w w' :=
  ⟨h.os, h.tape, h.output, h.size, fun k hk => (h.beside k (by omega) (hS k hk)).1⟩
/-- S' may be less than was said, where it is not of old blocks beside S. -/
theorem Fr.to {w w' : World} {S S' S2 : Nat → Prop} (h : Fr w w' S S') (h2 : ∀ g, g < w.heap.size → S2 g → S' g ∨ S g) : Fr w w' S S2 :=
  ⟨h.os, h.tape, h.output, h.size, fun g h1 h3 => ⟨(h.beside g h1 h3).1, fun hs => (h2 g h1 hs).elim (h.beside g h1 h3).2 h3⟩⟩
theorem Fr.drewN {w w' : World} {S S' : Nat → Prop} (h : Fr w w' S S') (n : Nat) : Fr w (w'.drewN n) S S' := h.trans (Fr.of_below (belowDrewN (Below.refl _ _) n))
theorem fr_set (w : World) (a : Addr) (v : Value) (S : Nat → Prop) (hS : S a.block) : Fr w (w.setCell a v) S S :=
  ⟨rfl, rfl, rfl, by simp, fun g _ h2 => ⟨Below.heap_setCell w a v g (fun e => h2 (e ▸ hS)), h2⟩⟩
/-- The blocks of a space. -/
def SB (bu sb : Nat) (A : Option Addr) : Nat → Prop := fun b => (bu ≤ b ∧ b ≤ sb) ∨ inA A b
theorem row_in {w : World} {base : Nat} {A : Option Addr} {n c : Nat} {l : List Int} (h : OwnI w base A n c l) {b : Nat} (hb : inA A b) : base ≤ b ∧ b < w.heap.size := by
  cases A with
  | none => exact absurd hb inA_none
  | some a =>
    have := inA_some.1 hb
    exact h.2.lt b (by simp [Value.ownBlock, this])
theorem sp_fr {w w' : World} {sb bu bw : Nat} {res : Int} {u wt : Int → Bool} {A A' : Option Addr} {c : Nat} {tk : List Int} {N : Nat} (h : Sp w' sb bu bw res u wt A' c tk N) (hb : Below bu w w') (hk : Kp w w' sb A A') : Fr w w' (SB bu sb A) (SB bu sb A') := by
  refine ⟨hb.os, hb.tape, hb.output, hb.size, fun g hg hS => ?_⟩
  unfold SB at hS ⊢
  by_cases h1 : g < bu
  · refine ⟨hb.block g h1, fun h2 => ?_⟩
    rcases h2 with h2 | h2
    · omega
    · have := row_in h.row h2; have := h.l1; have := h.l2; omega
  · have h2 : sb < g := by
      by_cases h3 : sb < g
      · exact h3
      · exact absurd (.inl ⟨by omega, by omega⟩) hS
    obtain ⟨e1, e2⟩ := hk g hg h2 (fun e => hS (.inr e))
    refine ⟨e1, fun h3 => ?_⟩
    rcases h3 with h3 | h3
    · omega
    · exact e2 h3
theorem row_same {w w' : World} {base e sz n c : Nat} {A : Option Addr} {xs : List Value} (h : w.ownsRow base e sz (.slice A n c) n xs) (hA : ∀ b, inA A b → w'.heap[b]? = w.heap[b]?) : w'.ownsRow base e sz (.slice A n c) n xs := by
  obtain ⟨h1, h2⟩ := h
  refine ⟨h1, ?_⟩
  rcases h2 with h2 | ⟨g, cap, cur, hv, hb, hg, r⟩
  · exact .inl h2
  · injection hv with ha hn hc
    subst ha
    exact .inr ⟨g, cap, cur, by rw [hc], hb, (hA _ (inA_some.2 rfl)).trans hg, r⟩
theorem OwnI.same {w w' : World} {base n c : Nat} {A : Option Addr} {l : List Int} (h : OwnI w base A n c l) (hA : ∀ b, inA A b → w'.heap[b]? = w.heap[b]?) : OwnI w' base A n c l := ⟨h.1, row_same h.2 hA⟩
/-- A space stays where its blocks do. -/
theorem Sp.stays {w w' : World} {sb bu bw : Nat} {res : Int} {u wt : Int → Bool} {A : Option Addr} {c : Nat} {tk : List Int} {N : Nat} (h : Sp w sb bu bw res u wt A c tk N) (hs : w.heap.size ≤ w'.heap.size) (hS : ∀ b, b < w.heap.size → SB bu sb A b → w'.heap[b]? = w.heap[b]?) : Sp w' sb bu bw res u wt A c tk N := by
  have l1 := h.l1; have l2 := h.l2; have lt := h.lt
  have e0 := hS sb lt (.inl ⟨by omega, by omega⟩)
  have e1 := hS bu (by omega) (.inl ⟨by omega, by omega⟩)
  have e2 := hS bw (by omega) (.inl ⟨by omega, by omega⟩)
  exact ⟨(World.cell?_of_block (w := w) (a := ⟨sb, 0, none⟩) e0).trans h.c0, (World.cell?_of_block (w := w) (a := ⟨sb, 1, none⟩) e0).trans h.c1, (World.cell?_of_block (w := w) (a := ⟨sb, 2, none⟩) e0).trans h.c2, (World.cell?_of_block (w := w) (a := ⟨sb, 3, none⟩) e0).trans h.c3,
    (World.frozen?_of_block (w := w) (a := ⟨sb, 3, none⟩) e0).trans h.f3, h.hu.same e1, h.hw.same e2, h.row.same (fun b hb => hS b (row_in h.row hb).2 (.inr hb)), l1, l2, by omega⟩
theorem RdI.same {w w' : World} {A : Option Addr} {l : List Int} (h : RdI w w.heap.size A l) (hs : w.heap.size ≤ w'.heap.size) (hA : ∀ b, b < w.heap.size → inA A b → w'.heap[b]? = w.heap[b]?) : RdI w' w'.heap.size A l := by
  intro k v hv
  obtain ⟨b, off, rfl, hb, hc⟩ := h k v hv
  exact ⟨b, off, rfl, by omega, (World.cell?_of_block (w := w) (a := ⟨b, off + k, none⟩) (hA b hb (inA_some.2 rfl))).trans hc⟩
/-- The blocks stay as they were, but those of X; the rest of the world stays. -/
structure Only (w w' : World) (X : Nat → Prop) : Prop where
  os : w'.os = w.os
  tape : w'.tape = w.tape
  output : w'.output = w.output
  size : w.heap.size ≤ w'.heap.size
  rest : ∀ g, g < w.heap.size → ¬ X g → w'.heap[g]? = w.heap[g]?
theorem Only.refl (w : World) (X : Nat → Prop) : Only w w X := ⟨rfl, rfl, rfl, Nat.le_refl _, fun _ _ _ => rfl⟩
/-- X and what came up since w. -/
def Sx (X : Nat → Prop) (w w' : World) : Nat → Prop := fun g => X g ∨ (w.heap.size ≤ g ∧ g < w'.heap.size)
theorem Only.trans {w w1 w2 : World} {X : Nat → Prop} (h : Only w w1 X) (h' : Only w1 w2 (Sx X w w1)) : Only w w2 X :=
  ⟨h'.os.trans h.os, h'.tape.trans h.tape, h'.output.trans h.output, Nat.le_trans h.size h'.size, fun g h1 h2 => (h'.rest g (Nat.lt_of_lt_of_le h1 h.size) (fun hx => hx.elim h2 fun hx => by omega)).trans (h.rest g h1 h2)⟩
theorem Only.mono {w w' : World} {X Y : Nat → Prop} (h : Only w w' X) (hXY : ∀ g, g < w.heap.size → X g → Y g) : Only w w' Y := ⟨h.os, h.tape, h.output, h.size, fun g h1 h2 => h.rest g h1 fun hx => h2 (hXY g h1 hx)⟩
theorem Only.of_below {w w' : World} {X : Nat → Prop} (h : Below w.heap.size w w') : Only w w' X := ⟨h.os, h.tape, h.output, h.size, fun g hg _ => h.block g hg⟩
theorem Only.of_set (w : World) (a : Addr) (v : Value) {X : Nat → Prop} (h : X a.block) : Only w (w.setCell a v) X := ⟨rfl, rfl, rfl, by simp, fun _ _ hg => Below.heap_setCell w a v _ (fun e => hg (e ▸ h))⟩
theorem Only.of_grown {w w' : World} {row : Option Nat} {X : Nat → Prop} (h : w.grownBy w' row) (hX : ∀ g, some g = row → X g) : Only w w' X := ⟨h.os, h.tape, h.output, h.size, fun g hg hx => h.block g hg (fun e => hx (hX g e))⟩
theorem Only.of_fr {w w' : World} {S S' : Nat → Prop} (h : Fr w w' S S') : Only w w' S := ⟨h.os, h.tape, h.output, h.size, fun g h1 h2 => (h.beside g h1 h2).1⟩
theorem Only.below {w w' : World} {X : Nat → Prop} {B : Nat} (h : Only w w' X) (hB : B ≤ w.heap.size) (hX : ∀ g, g < B → ¬ X g) : Below B w w' := ⟨h.os, h.tape, h.output, h.size, fun k hk => h.rest k (by omega) (hX k hk)⟩
theorem Sx.lt {X : Nat → Prop} {w w' : World} (h : ∀ g, X g → g < w.heap.size) (hs : w.heap.size ≤ w'.heap.size) : ∀ g, Sx X w w' g → g < w'.heap.size := fun g hg => hg.elim (fun h1 => Nat.lt_of_lt_of_le (h g h1) hs) fun h1 => h1.2
theorem Sx.sub {X : Nat → Prop} {w w1 w2 : World} (h1 : w.heap.size ≤ w1.heap.size) (h2 : w1.heap.size ≤ w2.heap.size) : ∀ g, Sx (Sx X w w1) w1 w2 g → Sx X w w2 g := fun g hg => by
  rcases hg with (hg | hg) | hg
  · exact .inl hg
  · exact .inr ⟨hg.1, by omega⟩
  · exact .inr ⟨by omega, hg.2⟩
end Go.Proofs.Ytobeppeadkoieaa
