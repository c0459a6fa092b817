/-
  Open of a disk that holds a file, and that the law TailOpens returns true.
-/
import Derived.Test.YtlplhllcohoeaaaHold
namespace Go.Proofs.Ytlplhllcohoeaaa
open Go.RowKit
section
variable {db mb : Nat} {d : Dv} {lo : Int} {N : Nat} {S : Nat → Prop} {F : Option Nat} {Ap : Option Addr} {np cp : Nat} {ps : List (Int × Value)}
theorem Open_short (w : World) (h : Dk w db mb d lo N S F Ap np cp ps) (hd : d.down = false) (n : Nat) (m : Nat) (hm : max 0 d.size = (m : Int)) (hn : m < n) (h1 : n ≤ 16777216) : Calls Try.prog 9 #[.pointer (some ⟨db, 0, none⟩), .int .i64 n] w fun e w' => e = .returned (.tuple #[.pointer none, .int .i64 13]) ∧ w = w' := by
  have hD := Down_any w db mb d lo N S F Ap np cp ps h
  rw [hd] at hD
  have hS := Size_any w h
  generalize d.size = z at *
  clear h hd
  go_enter Try.func9, Try.ntmps9
  go_wp2_with fail
  refine hD.mono ?_
  rintro e w1 ⟨rfl, rfl⟩
  clear hD
  go_wp2_with fail
  refine hS.mono ?_
  rintro e w1 ⟨rfl, rfl⟩
  clear hS
  by_cases hz : 0 ≤ z
  · have hmx : max 0 z = z := by omega
    have hzn : z < (n : Int) := by omega
    go_wp2_with fail
    all_goals (go_ret2; exact ⟨rfl, rfl⟩)
  · have hmx : max 0 z = 0 := by omega
    have hzn : (0 : Int) < (n : Int) := by omega
    go_wp2_with fail
    all_goals (go_ret2; exact ⟨rfl, rfl⟩)
theorem Open_cut (w : World) {fb : Nat} (h : Dk w db mb d lo N S (some fb) Ap np cp ps) (hd : d.down = false) (f : Fl) (hdf : d.f = some f) (n : Nat) (hn : n < f.now.length) (h1 : n ≤ 16777216) (hN : N + 3 ≤ 1099511627776) (hlo : lo ≤ n) (ha : ¬ (d.armed = true ∧ d.left = 0)) :
    Calls Try.prog 9 #[.pointer (some ⟨db, 0, none⟩), .int .i64 n] w fun e w' => (∃ tb, e = .returned (.tuple #[.pointer (some ⟨tb, 0, none⟩), .int .i64 0]) ∧ w.heap.size ≤ tb ∧ TlAt w' tb db n ∧ (∃ S' Ap' np' cp' ps', Dk w' db mb { d with left := d.left - 1, chg := d.chg + 1, f := some ⟨f.now.take n, f.safe, f.sure⟩ } lo (N + 3) S' (some fb) Ap' np' cp' ps' ∧ Fr w w' S S' ∧ ¬ S' tb)) := by
  have hD := Down_any w db mb d lo N S _ Ap np cp ps h
  rw [hd] at hD
  have hS := Size_any w h
  have hsz : d.size = (f.now.length : Int) := by simp [Dv.size, hd, hdf]
  rw [hsz] at hS
  have hC := Cut_file w h hd f hdf n (by omega) hN hlo ha
  have hzn : ¬ ((f.now.length : Int) < (n : Int)) := by omega
  have hzp : (n : Int) < (f.now.length : Int) := by omega
  have hmx : max 0 (f.now.length : Int) = (f.now.length : Int) := by omega
  have HC := Lib.hid hC
  clear h hd hC hsz
  generalize (f.now.length : Int) = z at *
  go_enter Try.func9, Try.ntmps9
  go_wp2_with fail
  refine hD.mono ?_
  rintro e w1 ⟨rfl, rfl⟩
  clear hD
  go_wp2_with fail
  refine hS.mono ?_
  rintro e w1 ⟨rfl, rfl⟩
  clear hS
  go_wp2_with fail
  refine HC.out.mono ?_
  rintro e w1 ⟨rfl, S', Ap', np', cp', ps', hd', hf'⟩
  have HD := Lib.hid hd'
  have HF := Lib.hid hf'
  clear hd' hf'
  go_wp2_with fail
  go_ret2
  refine ⟨w1.heap.size, rfl, HF.out.size, heap_alloc_new _ _, S', Ap', np', cp', ps', HD.out.up ((Below.refl _ _).alloc (Nat.le_refl _) _), HF.out.trans (Fr.of_below ((Below.refl _ _).alloc (Nat.le_refl _) _)), fun hx => ?_⟩
  have := HD.out.lt _ hx
  omega
end
/-- The disk ahead of Open: no file, or the one that was laid. -/
def Ld (B : Nat) (w : World) (db : Nat) (b : List Int) : Prop :=
  ∃ (mb : Nat) (d : Dv) (S : Nat → Prop) (F : Option Nat), Dk w db mb d 0 0 S F none 0 0 [] ∧ d.down = false ∧ d.armed = false ∧ d.room = 1048576 ∧ ((F = none ∧ b = []) ∨ (∃ fb, F = some fb ∧ d.f = some ⟨b, b, true⟩)) ∧ (∀ g, S g → B ≤ g)
theorem Dv.size_none {d : Dv} (h1 : d.down = false) (h : d.f = none) : d.size = -1 := by simp [Dv.size, h1, h]
theorem Dv.size_some {d : Dv} {f : Fl} (h1 : d.down = false) (h : d.f = some f) : d.size = (f.now.length : Int) := by simp [Dv.size, h1, h]
theorem Ld.size {B : Nat} {w : World} {db : Nat} {b : List Int} (h : Ld B w db b) : Calls Try.prog 10 #[.pointer (some ⟨db, 0, none⟩), .string tl] w fun e w' => (∃ z, e = .returned (.int .i64 z) ∧ max 0 z = (b.length : Int)) ∧ w = w' := by
  obtain ⟨mb, d, S, F, hd, h1, h2, h3, h4, h5⟩ := h
  refine (Size_any w hd).mono ?_
  rintro e w' ⟨rfl, rfl⟩
  refine ⟨⟨_, rfl, ?_⟩, rfl⟩
  rcases h4 with ⟨rfl, rfl⟩ | ⟨fb, rfl, hf⟩
  · rw [Dv.size_none h1 hd.gone]; rfl
  · rw [Dv.size_some h1 hf]; simp only; omega
theorem Hs.size {B : Nat} {w : World} {db tb : Nat} {l : List Int} {N : Nat} (h : Hs B w db tb l N) : Calls Try.prog 10 #[.pointer (some ⟨db, 0, none⟩), .string tl] w fun e w' => (∃ z, e = .returned (.int .i64 z) ∧ max 0 z = (l.length : Int)) ∧ w = w' := by
  obtain ⟨mb, d, S, F, Ap, np, cp, ps, hd, h1, h2, h3, h4, h5, h6⟩ := h
  refine (Size_any w hd).mono ?_
  rintro e w' ⟨rfl, rfl⟩
  refine ⟨⟨_, rfl, ?_⟩, rfl⟩
  rcases h4 with ⟨rfl, rfl⟩ | ⟨fb, f, rfl, hf, hf2⟩
  · rw [Dv.size_none h1 hd.gone]; rfl
  · rw [Dv.size_some h1 hf, hf2]; omega
theorem Ld.short {B : Nat} {w : World} {db : Nat} {b : List Int} (h : Ld B w db b) (n : Nat) (hn : b.length < n) (h1 : n ≤ 16777216) : Calls Try.prog 9 #[.pointer (some ⟨db, 0, none⟩), .int .i64 n] w fun e w' => e = .returned (.tuple #[.pointer none, .int .i64 13]) ∧ w = w' := by
  obtain ⟨mb, d, S, F, hd, g1, g2, g3, g4, g5⟩ := h
  refine Open_short w hd g1 n b.length ?_ hn h1
  rcases g4 with ⟨rfl, rfl⟩ | ⟨fb, rfl, hf⟩
  · rw [Dv.size_none g1 hd.gone]; rfl
  · rw [Dv.size_some g1 hf]; simp only; omega
theorem Ld.open {B : Nat} {w : World} {db : Nat} {b : List Int} (h : Ld B w db b) (n : Nat) (hn : n ≤ b.length) (h1 : n ≤ 16777216) (hB : B ≤ w.heap.size) : Calls Try.prog 9 #[.pointer (some ⟨db, 0, none⟩), .int .i64 n] w fun e w' => (∃ tb, e = .returned (.tuple #[.pointer (some ⟨tb, 0, none⟩), .int .i64 0]) ∧ B ≤ tb ∧ TlAt w' tb db n ∧ Hs B w' db tb (b.take n) 3) ∧ Below B w w' := by
  obtain ⟨mb, d, S, F, hd, g1, g2, g3, g4, g5⟩ := h
  have hna : ¬ (d.armed = true ∧ d.left = 0) := by rw [g2]; simp
  by_cases hnb : n = b.length
  · have hmx : max 0 d.size = (n : Int) := by
      rcases g4 with ⟨rfl, rfl⟩ | ⟨fb, rfl, hf⟩
      · rw [Dv.size_none g1 hd.gone]; simp at hnb; subst hnb; rfl
      · rw [Dv.size_some g1 hf]; simp only; omega
    refine (Open_all w hd g1 n hmx h1).mono ?_
    rintro e w' ⟨rfl, ht, hb⟩
    have htk : b.take n = b := List.take_of_length_le (Nat.le_of_eq hnb.symm)
    rw [htk]
    refine ⟨⟨_, rfl, hB, ht, ⟨mb, d, S, F, none, 0, 0, [], (hd.up hb).more (by omega), g1, g2, g3, ?_, g5, fun hx => by have := hd.lt _ hx; omega⟩⟩, hb.mono hB⟩
    rcases g4 with ⟨rfl, rfl⟩ | ⟨fb, rfl, hf⟩
    · exact .inl ⟨rfl, rfl⟩
    · exact .inr ⟨fb, _, rfl, hf, rfl⟩
  · rcases g4 with ⟨rfl, rfl⟩ | ⟨fb, rfl, hf⟩
    · simp at hn; simp at hnb; omega
    · refine (Open_cut w hd g1 ⟨b, b, true⟩ hf n (by simp only; omega) h1 (by omega) (by omega) hna).mono ?_
      rintro e w' ⟨tb, rfl, htb, ht, S', Ap', np', cp', ps', hd', hfr, hns⟩
      refine ⟨⟨tb, rfl, by omega, ht, ⟨mb, _, S', _, Ap', np', cp', ps', hd', g1, g2, g3, .inr ⟨fb, _, rfl, rfl, rfl⟩, fun g hg => ?_, hns⟩⟩, hfr.below hB (fun g hg hS => by have := g5 g hS; omega)⟩
      by_cases hlt : g < w.heap.size
      · by_cases hS : S g
        · exact g5 g hS
        · exact absurd hg (hfr.beside g hlt hS).2
      · omega
end Go.Proofs.Ytlplhllcohoeaaa
