/-
  The disk and the tail together, as the law TailPlays uses them: what each call of the tail answers and leaves.
-/
import Derived.Test.YtlplhllcohoeaaaOffs
namespace Go.Proofs.Ytlplhllcohoeaaa
open Go.RowKit
/-- The disk with the tail on it: its bytes l, those that are safe for sure sf (its first ones). -/
structure Tq (w : World) (db tb mb : Nat) (d : Dv) (room : Int) (N : Nat) (l sf : List Int) (S : Nat → Prop) (F : Option Nat) (Ap : Option Addr) (np cp : Nat) (ps : List (Int × Value)) : Prop where
  dk : Dk w db mb d sf.length N S F Ap np cp ps
  tl : TlAt w tb db l.length
  nt : ¬ S tb
  rm : d.room = room
  ll : (l.length : Int) ≤ room
  r3 : room ≤ 3000
  st : (F = none ∧ np = 0 ∧ l = [] ∧ sf = []) ∨ ∃ fb f, F = some fb ∧ d.f = some f ∧ f.now = l ∧ sf.length ≤ f.safe.length ∧ f.safe.take sf.length = sf ∧ sf.length ≤ l.length ∧ l.take sf.length = sf ∧ (f.sure = false → sf = [])
def Tp (B : Nat) (w : World) (db tb : Nat) (room : Int) (N : Nat) (dn : Bool) (l sf : List Int) (T : Nat → Prop) : Prop :=
  ∃ mb d S F Ap np cp ps, Tq w db tb mb d room N l sf S F Ap np cp ps ∧ d.down = dn ∧ T = (fun g => S g ∨ g = tb) ∧ ∀ g, T g → B ≤ g
theorem Fr.tail {w w1 : World} {S S' : Nat → Prop} {tb : Nat} (h : Fr w w1 S S') (v : Value) : Fr w (w1.setCell ⟨tb, 1, none⟩ v) (fun g => S g ∨ g = tb) (fun g => S' g ∨ g = tb) :=
  ⟨h.os, h.tape, h.output, by have := h.size; simpa using this, fun g h1 h2 => by
    have h3 := h.beside g h1 fun hx => h2 (.inl hx)
    exact ⟨(heap_setCell_other _ _ _ _ (fun e => h2 (.inr e))).trans h3.1, fun hx => hx.elim h3.2 fun e => h2 (.inr e)⟩⟩
theorem Fr.tail0 {w w1 : World} {S S' : Nat → Prop} {tb : Nat} (h : Fr w w1 S S') : Fr w w1 (fun g => S g ∨ g = tb) (fun g => S' g ∨ g = tb) :=
  ⟨h.os, h.tape, h.output, h.size, fun g h1 h2 => by
    have h3 := h.beside g h1 fun hx => h2 (.inl hx)
    exact ⟨h3.1, fun hx => hx.elim h3.2 fun e => h2 (.inr e)⟩⟩
theorem Fr.base {w w' : World} {S S' : Nat → Prop} {B : Nat} (h : Fr w w' S S') (hB : B ≤ w.heap.size) (hS : ∀ g, S g → B ≤ g) : ∀ g, S' g → B ≤ g := fun g hg => by
  by_cases h1 : g < w.heap.size
  · by_cases h2 : S g
    · exact hS g h2
    · exact absurd hg (h.beside g h1 h2).2
  · omega
theorem Tq.up {w w' : World} {db tb mb : Nat} {d : Dv} {room : Int} {N : Nat} {l sf : List Int} {S : Nat → Prop} {F : Option Nat} {Ap : Option Addr} {np cp : Nat} {ps : List (Int × Value)} (h : Tq w db tb mb d room N l sf S F Ap np cp ps) (hb : Below w.heap.size w w') : Tq w' db tb mb d room N l sf S F Ap np cp ps :=
  ⟨h.dk.up hb, h.tl.up hb, h.nt, h.rm, h.ll, h.r3, h.st⟩
theorem Tq.more {w : World} {db tb mb : Nat} {d : Dv} {room : Int} {N : Nat} {l sf : List Int} {S : Nat → Prop} {F : Option Nat} {Ap : Option Addr} {np cp : Nat} {ps : List (Int × Value)} (h : Tq w db tb mb d room N l sf S F Ap np cp ps) {N' : Nat} (hN : N ≤ N') : Tq w db tb mb d room N' l sf S F Ap np cp ps :=
  ⟨h.dk.more hN, h.tl, h.nt, h.rm, h.ll, h.r3, h.st⟩
theorem Tp.up {B : Nat} {w w' : World} {db tb : Nat} {room : Int} {N : Nat} {dn : Bool} {l sf : List Int} {T : Nat → Prop} (h : Tp B w db tb room N dn l sf T) (hb : Below w.heap.size w w') : Tp B w' db tb room N dn l sf T := by
  obtain ⟨mb, d, S, F, Ap, np, cp, ps, h1, r⟩ := h
  exact ⟨mb, d, S, F, Ap, np, cp, ps, h1.up hb, r⟩
theorem Tp.more {B : Nat} {w : World} {db tb : Nat} {room : Int} {N : Nat} {dn : Bool} {l sf : List Int} {T : Nat → Prop} (h : Tp B w db tb room N dn l sf T) {N' : Nat} (hN : N ≤ N') : Tp B w db tb room N' dn l sf T := by
  obtain ⟨mb, d, S, F, Ap, np, cp, ps, h1, r⟩ := h
  exact ⟨mb, d, S, F, Ap, np, cp, ps, h1.more hN, r⟩
theorem Tp.lt {B : Nat} {w : World} {db tb : Nat} {room : Int} {N : Nat} {dn : Bool} {l sf : List Int} {T : Nat → Prop} (h : Tp B w db tb room N dn l sf T) : ∀ g, T g → g < w.heap.size := by
  obtain ⟨mb, d, S, F, Ap, np, cp, ps, h1, _, rfl, _⟩ := h
  rintro g (hg | rfl)
  · exact h1.dk.lt g hg
  · exact h1.tl.lt
theorem Tp.len {B : Nat} {w : World} {db tb : Nat} {room : Int} {N : Nat} {dn : Bool} {l sf : List Int} {T : Nat → Prop} (h : Tp B w db tb room N dn l sf T) : (l.length : Int) ≤ room ∧ room ≤ 3000 ∧ sf.length ≤ l.length ∧ l.take sf.length = sf := by
  obtain ⟨mb, d, S, F, Ap, np, cp, ps, h1, _⟩ := h
  refine ⟨h1.ll, h1.r3, ?_⟩
  rcases h1.st with ⟨_, _, rfl, rfl⟩ | ⟨_, _, _, _, _, _, _, h2, h3, _⟩
  · exact ⟨Nat.le_refl _, rfl⟩
  · exact ⟨h2, h3⟩
section
variable {B : Nat} {w : World} {db tb : Nat} {room : Int} {N : Nat} {dn : Bool} {l sf : List Int} {T : Nat → Prop}
theorem Tp.down (h : Tp B w db tb room N dn l sf T) : Calls Try.prog 22 #[.pointer (some ⟨db, 0, none⟩)] w fun e w' => e = .returned (.bool dn) ∧ w = w' := by
  obtain ⟨mb, d, S, F, Ap, np, cp, ps, h1, rfl, _⟩ := h
  exact Down_any w db mb d _ N S F Ap np cp ps h1.dk
theorem Tq.sum {mb : Nat} {d : Dv} {S : Nat → Prop} {F : Option Nat} {Ap : Option Addr} {np cp : Nat} {ps : List (Int × Value)} (h : Tq w db tb mb d room N l sf S F Ap np cp ps) : d.sum = l.length := by
  rcases h.st with ⟨rfl, _, rfl, _⟩ | ⟨fb, f, rfl, h2, h3, _⟩
  · simp [Dv.sum, h.dk.gone]
  · simp [Dv.sum, h2, h3]
theorem Tp.free (h : Tp B w db tb room N dn l sf T) : Calls Try.prog 36 #[.pointer (some ⟨db, 0, none⟩)] w fun e w' => e = .returned (.int .i64 (max 0 (room - l.length))) ∧ Below w.heap.size w w' := by
  obtain ⟨mb, d, S, F, Ap, np, cp, ps, h1, _⟩ := h
  have := Free_any w h1.dk h1.dk.rm
  rwa [h1.sum, h1.rm] at this
theorem Tp.length (h : Tp B w db tb room N dn l sf T) : Calls Try.prog 11 #[.pointer (some ⟨tb, 0, none⟩)] w fun e w' => e = .returned (.int .i64 l.length) ∧ w = w' := by
  obtain ⟨mb, d, S, F, Ap, np, cp, ps, h1, _⟩ := h
  exact Len_any w _ h1.tl
theorem Tp.arm (h : Tp B w db tb room N dn l sf T) (n : Int) (h0 : -9223372036854775808 ≤ n) (h1 : n ≤ 9223372036854775807) : Calls Try.prog 16 #[.pointer (some ⟨db, 0, none⟩), .int .i64 n] w fun e w' => (∃ z, e = .returned (.int .i64 z) ∧ (z = 0 ↔ 0 ≤ n)) ∧ Tp B w' db tb room N dn l sf T ∧ Fr w w' T T := by
  obtain ⟨mb, d, S, F, Ap, np, cp, ps, hq, hd, rfl, hT⟩ := h
  by_cases hn : 0 ≤ n
  · refine (Arm_any w n hn h1 hq.dk).mono ?_
    rintro e w' ⟨rfl, hd', hf⟩
    exact ⟨⟨0, rfl, by simp [hn]⟩, ⟨mb, _, S, F, Ap, np, cp, ps, ⟨hd', (hf.beside tb hq.tl.lt hq.nt).1.trans hq.tl, hq.nt, hq.rm, hq.ll, hq.r3, hq.st⟩, hd, rfl, hT⟩, hf.tail0⟩
  · refine (Arm_neg w n (by omega) _).mono ?_
    rintro e w' ⟨rfl, rfl⟩
    exact ⟨⟨1, rfl, by simp; omega⟩, ⟨mb, d, S, F, Ap, np, cp, ps, hq, hd, rfl, hT⟩, Fr.refl _ _⟩
end
end Go.Proofs.Ytlplhllcohoeaaa
