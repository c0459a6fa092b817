/-
  A loss of power and Open, and the first Open, over the disk and the tail together.
-/
import Derived.Test.YtlplhllcohoeaaaTpb
namespace Go.Proofs.Ytlplhllcohoeaaa
open Go.RowKit
/-- The disk behind a loss of power: what was safe for sure stands first. -/
def Cp (B : Nat) (w : World) (db : Nat) (room : Int) (N : Nat) (sf : List Int) (T : Nat → Prop) : Prop :=
  ∃ mb d F, Dk w db mb d sf.length N T F none 0 0 [] ∧ d.down = false ∧ d.armed = false ∧ d.room = room ∧ (sf.length : Int) ≤ room ∧ room ≤ 3000 ∧ ((F = none ∧ sf = []) ∨ ∃ fb l1, F = some fb ∧ d.f = some ⟨l1, l1, true⟩ ∧ sf.length ≤ l1.length ∧ l1.take sf.length = sf) ∧ ∀ g, T g → B ≤ g
theorem Cp.up {B : Nat} {w w' : World} {db : Nat} {room : Int} {N : Nat} {sf : List Int} {T : Nat → Prop} (h : Cp B w db room N sf T) (hb : Below w.heap.size w w') : Cp B w' db room N sf T := by
  obtain ⟨mb, d, F, h1, r⟩ := h
  exact ⟨mb, d, F, h1.up hb, r⟩
section
variable {B : Nat} {w : World} {db tb : Nat} {room : Int} {N : Nat} {dn : Bool} {l sf : List Int} {T : Nat → Prop}
theorem Tp.crash (h : Tp B w db tb room N dn l sf T) (hN : N ≤ 900000) (hB : B ≤ w.heap.size) (PA : Option Addr) (m pc : Nat) (xs : List Int) (hx : xs.length = m) (hm : m ≤ 9223372036854775807) (hr : RdI w w.heap.size PA xs) (hPS : ∀ a, PA = some a → xs ≠ [] → ¬ T a.block) :
    Calls Try.prog 34 #[.pointer (some ⟨db, 0, none⟩), .slice PA m pc] w fun e w' => ∃ T', e = .returned (.tuple #[]) ∧ Cp B w' db room N sf T' ∧ Fr w w' T T' := by
  have hlen := h.len
  obtain ⟨mb, d, S, F, Ap, np, cp, ps, hq, hd, rfl, hT⟩ := h
  have hSB : ∀ g, S g → B ≤ g := fun g hg => hT g (.inl hg)
  have hfr : ∀ (w' : World) (S' : Nat → Prop), Fr w w' S S' → Fr w w' (fun g => S g ∨ g = tb) S' := fun w' S' hf =>
    ⟨hf.os, hf.tape, hf.output, hf.size, fun g h1 h2 => hf.beside g h1 fun hx => h2 (.inl hx)⟩
  rcases hq.st with ⟨rfl, rfl, rfl, rfl⟩ | ⟨fb, f, rfl, hf1, hf2, hf3, hf4, hf5, hf6, hf7⟩
  · refine (Crash_gone w hq.dk PA m pc).mono ?_
    rintro e w' ⟨rfl, hd', hf⟩
    exact ⟨S, rfl, ⟨mb, _, none, hd', rfl, rfl, hq.rm, hlen.1, hq.r3, .inl ⟨rfl, rfl⟩, hSB⟩, hfr w' S hf⟩
  · refine (Crash_file w hq.dk f hf1 (by omega) sf.length rfl hf3 PA m pc xs hx hm hr (fun a e hne hx => hPS a e hne (.inl hx))).mono ?_
    rintro e w' ⟨rfl, S', hf, ⟨l1, hd', h1, h2⟩ | ⟨h1, hd'⟩⟩
    · exact ⟨S', rfl, ⟨mb, _, some fb, hd', rfl, rfl, hq.rm, by omega, hq.r3, .inr ⟨fb, l1, rfl, rfl, h1, h2.trans hf4⟩, hf.base hB hSB⟩, hfr w' S' hf⟩
    · have hsf := hf7 h1
      exact ⟨S', rfl, ⟨mb, _, none, hd', rfl, rfl, hq.rm, by omega, hq.r3, .inl ⟨rfl, hsf⟩, hf.base hB hSB⟩, hfr w' S' hf⟩
theorem Cp.open (h : Cp B w db room N sf T) (hN : N ≤ 900000) (hB : B ≤ w.heap.size) :
    Calls Try.prog 9 #[.pointer (some ⟨db, 0, none⟩), .int .i64 sf.length] w fun e w' => ∃ tb T', e = .returned (.tuple #[.pointer (some ⟨tb, 0, none⟩), .int .i64 0]) ∧ Tp B w' db tb room (N + 600) false sf sf T' ∧ Fr w w' T T' := by
  obtain ⟨mb, d, F, hdk, h1, h2, h3, h4, h5, h6, hT⟩ := h
  have hall : ∀ n : Nat, n = sf.length → max 0 d.size = (n : Int) → ((F = none ∧ (0 : Nat) = 0 ∧ sf = [] ∧ sf = []) ∨ ∃ fb f, F = some fb ∧ d.f = some f ∧ f.now = sf ∧ sf.length ≤ f.safe.length ∧ f.safe.take sf.length = sf ∧ sf.length ≤ sf.length ∧ sf.take sf.length = sf ∧ (f.sure = false → sf = [])) → Calls Try.prog 9 #[.pointer (some ⟨db, 0, none⟩), .int .i64 sf.length] w fun e w' => ∃ tb T', e = .returned (.tuple #[.pointer (some ⟨tb, 0, none⟩), .int .i64 0]) ∧ Tp B w' db tb room (N + 600) false sf sf T' ∧ Fr w w' T T' := by
    rintro n rfl hm hst
    refine (Open_all w hdk h1 sf.length hm (by omega)).mono ?_
    rintro e w' ⟨rfl, hT', hb⟩
    have hnt : ¬ T w.heap.size := fun hx => Nat.lt_irrefl _ (hdk.lt _ hx)
    refine ⟨w.heap.size, fun g => T g ∨ g = w.heap.size, rfl, ⟨mb, d, T, F, none, 0, 0, [], (⟨hdk.up hb, hT', hnt, h3, h4, h5, hst⟩ : Tq w' db w.heap.size mb d room N sf sf T F none 0 0 []).more (by omega), h1, rfl, ?_⟩, ⟨hb.os, hb.tape, hb.output, hb.size, fun g h1 h2 => ⟨hb.block g h1, fun hx => hx.elim h2 fun e => by omega⟩⟩⟩
    rintro g (hg | rfl)
    · exact hT g hg
    · exact hB
  rcases h6 with ⟨rfl, rfl⟩ | ⟨fb, l1, rfl, hf1, hf2, hf3⟩
  · exact hall 0 rfl (by rw [Dv.size_none h1 hdk.gone]; decide) (.inl ⟨rfl, rfl, rfl, rfl⟩)
  · by_cases hs : sf.length = l1.length
    · have e : l1 = sf := by rw [← hf3, hs, List.take_length]
      subst e
      exact hall l1.length rfl (by rw [Dv.size_some h1 hf1]; simp only; omega) (.inr ⟨fb, _, rfl, hf1, rfl, Nat.le_refl _, by simp, Nat.le_refl _, by simp, fun h => by cases h⟩)
    · refine (Open_cut w hdk h1 _ hf1 sf.length (by simp only; omega) (by omega) (by omega) (Int.le_refl _) (by rw [h2]; simp)).mono ?_
      rintro e w' ⟨tb, rfl, htb, hT', S', Ap', np', cp', ps', hd', hf, hnt⟩
      refine ⟨tb, fun g => S' g ∨ g = tb, rfl, ⟨mb, _, S', some fb, Ap', np', cp', ps', (⟨hd', hT', hnt, h3, h4, h5, .inr ⟨fb, _, rfl, rfl, hf3, hf2, hf3, Nat.le_refl _, by simp, fun h => by cases h⟩⟩ : Tq w' db tb mb _ room (N + 3) sf sf S' (some fb) Ap' np' cp' ps').more (by omega), h1, rfl, ?_⟩, ⟨hf.os, hf.tape, hf.output, hf.size, fun g h1 h2 => ⟨(hf.beside g h1 h2).1, fun hx => hx.elim (hf.beside g h1 h2).2 fun e => by omega⟩⟩⟩
      rintro g (hg | rfl)
      · exact hf.base hB hT g hg
      · omega
/-- A new disk, ahead of the first Open. -/
theorem Cp.first (w : World) (room : Int) (h0 : 0 ≤ room) (h1 : room ≤ 3000) : Calls Try.prog 6 #[.int .i64 room] w fun e w' => ∃ db T, e = .returned (.tuple #[.pointer (some ⟨db, 0, none⟩), .int .i64 0]) ∧ Cp w.heap.size w' db room 0 [] T ∧ Below w.heap.size w w' := by
  refine (New_any w room h0 (by omega) 0).mono ?_
  rintro e w' ⟨db, mb, rfl, hd, l1, l2, hb⟩
  exact ⟨db, _, rfl, ⟨mb, _, none, hd, rfl, rfl, rfl, by simpa using h0, h1, .inl ⟨rfl, rfl⟩, fun g hg => by rcases hg with rfl | rfl <;> omega⟩, hb⟩
end
end Go.Proofs.Ytlplhllcohoeaaa
