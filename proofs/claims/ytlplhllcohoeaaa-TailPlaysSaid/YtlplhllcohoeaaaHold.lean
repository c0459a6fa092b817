/-
  A disk that holds so many bytes under the tail's name, live: Append and Read over it; Open.
-/
import Derived.Test.YtlplhllcohoeaaaCut
import Derived.Test.YtlplhllcohoeaaaNil
namespace Go.Proofs.Ytlplhllcohoeaaa
open Go.RowKit
theorem layL_end (l b : List Int) : layL l l.length b = l ++ b := by
  unfold layL
  rw [show l.length + b.length - l.length = b.length by omega]
  unfold Go.splice
  simp
/-- A live disk of room 2^20 that holds the bytes, its blocks behind B; N changes at the most so far. -/
def Hs (B : Nat) (w : World) (db tb : Nat) (have_ : List Int) (N : Nat) : Prop :=
  ∃ (mb : Nat) (d : Dv) (S : Nat → Prop) (F : Option Nat) (Ap : Option Addr) (np cp : Nat) (ps : List (Int × Value)), Dk w db mb d 0 N S F Ap np cp ps ∧ d.down = false ∧ d.armed = false ∧ d.room = 1048576 ∧ ((F = none ∧ have_ = []) ∨ (∃ fb f, F = some fb ∧ d.f = some f ∧ f.now = have_)) ∧ (∀ g, S g → B ≤ g) ∧ ¬ S tb
theorem Hs.up {B : Nat} {w w' : World} {db tb : Nat} {l : List Int} {N : Nat} (h : Hs B w db tb l N) (hb : Below w.heap.size w w') : Hs B w' db tb l N := by
  obtain ⟨mb, d, S, F, Ap, np, cp, ps, hd, r⟩ := h
  exact ⟨mb, d, S, F, Ap, np, cp, ps, hd.up hb, r⟩
/-- Append to it. -/
theorem HAppend (B : Nat) (w : World) (db tb : Nat) (l b : List Int) (N n m c : Nat) (A : Option Addr) (h : Hs B w db tb l N) (hT : TlAt w tb db n) (hl : l.length = n) (hb : b.length = m) (hc : m ≤ c) (hno : A = none → m = 0) (hr : RdB w w.heap.size A b) (hsep : ∀ a, A = some a → b ≠ [] → a.block < B) (hB : B ≤ w.heap.size) (htb : B ≤ tb) (hN : N ≤ 1048576) (hnm : n + m ≤ 1048576) :
    Calls Try.prog 12 #[.pointer (some ⟨tb, 0, none⟩), .slice A m c] w fun e w' => e = .returned (.tuple #[.int .i64 n, .int .i64 0]) ∧ Hs B w' db tb (l ++ b) (N + m + 2) ∧ TlAt w' tb db ((n + m : Nat) : Int) ∧ Below B w w' := by
  obtain ⟨mb, d, S, F, Ap, np, cp, ps, hd, h1, h2, h3, h4, h5, h6⟩ := h
  have hna : ¬ (d.armed = true ∧ d.left = 0) := by rw [h2]; simp
  have key : Calls Try.prog 17 #[.pointer (some ⟨db, 0, none⟩), .string tl, .int .i64 n, .slice A m c] w.drew fun e w' => e = .returned (.int .i64 0) ∧ (∃ (mb : Nat) (d' : Dv) (S' : Nat → Prop) (F : Option Nat) (Ap : Option Addr) (np cp : Nat) (ps : List (Int × Value)), Dk w' db mb d' 0 (N + m + 2) S' F Ap np cp ps ∧ d'.down = false ∧ d'.armed = false ∧ d'.room = 1048576 ∧ ((F = none ∧ l ++ b = []) ∨ (∃ fb f, F = some fb ∧ d'.f = some f ∧ f.now = l ++ b)) ∧ (∀ g, S' g → B ≤ g) ∧ ¬ S' tb) ∧ Only w.drew w' S := by
    by_cases hm0 : m = 0
    · subst hm0
      have hbn : b = [] := List.eq_nil_of_length_eq_zero hb
      subst hbn
      rw [List.append_nil]
      rcases h4 with ⟨rfl, rfl⟩ | ⟨fb, f, rfl, hf1, hf2⟩
      · subst hl
        refine (Write_none_gone w.drew (hd.drewN 1) h1 A c).mono ?_
        rintro e w' ⟨rfl, rfl⟩
        exact ⟨rfl, ⟨mb, d, S, _, Ap, np, cp, ps, (hd.drewN 1).more (by omega), h1, h2, h3, .inl ⟨rfl, rfl⟩, h5, h6⟩, Only.refl _ _⟩
      · refine (Write_none_file w.drew (hd.drewN 1) h1 n (by simp only [Dv.sum, hf1, hf2, hl]; omega) A c).mono ?_
        rintro e w' ⟨rfl, rfl⟩
        exact ⟨rfl, ⟨mb, d, S, _, Ap, np, cp, ps, (hd.drewN 1).more (by omega), h1, h2, h3, .inr ⟨fb, f, rfl, hf1, hf2⟩, h5, h6⟩, Only.refl _ _⟩
    · have hbne : b ≠ [] := by rintro rfl; simp at hb; omega
      have hsS : ∀ a, A = some a → ¬ S a.block := fun a e hx => by have := hsep a e hbne; have := h5 _ hx; omega
      have hlow : ∀ w', Only w.drew w' S → ∀ g, Sx S w.drew w' g → B ≤ g := fun w' ho g hg => hg.elim (h5 g) fun hx => Nat.le_trans hB hx.1
      have hnt : ∀ w', Only w.drew w' S → ¬ Sx S w.drew w' tb := fun w' ho hx => hx.elim h6 fun hx => by
        have h1 : w.heap.size ≤ tb := hx.1
        have h2 := hT.lt
        omega
      rcases h4 with ⟨rfl, rfl⟩ | ⟨fb, f, rfl, hf1, hf2⟩
      · subst hl
        refine (Write_new w.drew (hd.drewN 1) h1 A m c b (by omega) (by omega) hb hc hr hsS (by omega) (by omega) (by rw [h3]; omega) hna).mono ?_
        rintro e w' ⟨rfl, ⟨fb, Ap', np', cp', ps', hd'⟩, ho⟩
        refine ⟨rfl, ⟨mb, _, _, _, Ap', np', cp', ps', hd', h1, h2, h3, .inr ⟨fb, ⟨layL [] 0 b, [], false⟩, rfl, ?_, layL_end [] b⟩, hlow w' ho, hnt w' ho⟩, ho⟩
        unfold Dv.wrote
        rw [hd.gone]
      · refine (Write_file w.drew (hd.drewN 1) h1 n (by simp only [Dv.sum, hf1, hf2, hl]) A m c b (by omega) (by omega) hb hc hr hsS (by omega) (by omega) (by rw [h3]; omega) hna).mono ?_
        rintro e w' ⟨rfl, ⟨Ap', np', cp', ps', hd'⟩, ho⟩
        refine ⟨rfl, ⟨mb, _, _, _, Ap', np', cp', ps', hd', h1, h2, h3, .inr ⟨fb, ⟨layL f.now n b, f.safe, f.sure⟩, rfl, ?_, ?_⟩, hlow w' ho, hnt w' ho⟩, ho⟩
        · unfold Dv.wrote
          rw [hf1]
        · simp only
          rw [← hl, hf2, layL_end]
  refine (Append_walk w n m c A hT (by omega) _ h6 key).mono ?_
  rintro e w' ⟨rfl, w1, ⟨mb', d', S', F', Ap', np', cp', ps', hd', q1, q2, q3, q4, q5, q6⟩, ho, rfl, hT'⟩
  refine ⟨rfl, ⟨mb', d', S', F', Ap', np', cp', ps', hd'.settb q6 _, q1, q2, q3, q4, q5, q6⟩, hT', ?_⟩
  have hb1 : Below B w.drew w1 := only_below ho hB h5
  exact ((belowDrewN (Below.refl B w) 1).trans hb1).setCell htb _
/-- Read all of it. -/
theorem HRead (B : Nat) (w : World) (db tb : Nat) (l : List Int) (N n : Nat) (h : Hs B w db tb l N) (hT : TlAt w tb db n) (hl : l.length = n) (hn : n ≤ 1048576) :
    Calls Try.prog 13 #[.pointer (some ⟨tb, 0, none⟩), .int .i64 0, .int .i64 n] w fun e w' => (∃ A c, e = .returned (.tuple #[.slice A n c, .int .i64 0]) ∧ RdB w' w'.heap.size A l) ∧ Below w.heap.size w w' := by
  by_cases h0 : n = 0
  · subst h0
    have hln : l = [] := List.eq_nil_of_length_eq_zero hl
    subst hln
    have c1 := hT.c1
    clear h hT
    go_enter Try.func13, Try.ntmps13
    go_wp2_with fail
    go_ret2
    exact ⟨⟨none, 0, rfl, RdB.nil _ _ _⟩, Below.refl _ _⟩
  · obtain ⟨mb, d, S, F, Ap, np, cp, ps, hd, h1, h2, h3, h4, h5, h6⟩ := h
    rcases h4 with ⟨rfl, rfl⟩ | ⟨fb, f, rfl, hf1, hf2⟩
    · simp at hl; omega
    · have hR := (Read_file w hd h1 f hf1 0 n (by omega) (by rw [hf2, hl]; omega)).mono (fun e w' h => (show ∃ x, e = .returned (.tuple #[x, .int .i64 0]) ∧ (∃ g c, x = .slice (some ⟨g, 0, none⟩) n c ∧ OwnB w' w.heap.size (some ⟨g, 0, none⟩) n c l ∧ Below w.heap.size w w') from by
        obtain ⟨⟨g, c, he, ho⟩, hb⟩ := h
        refine ⟨_, he, g, c, rfl, ?_, hb⟩
        rwa [hf2, List.drop_zero, List.take_of_length_le (Nat.le_of_eq hl)] at ho))
      refine (TRead_walk w n 0 n hT (by omega) (by omega) (by omega) (fun x w' => ∃ g c, x = .slice (some ⟨g, 0, none⟩) n c ∧ OwnB w' w.heap.size (some ⟨g, 0, none⟩) n c l ∧ Below w.heap.size w w') hR).mono ?_
      rintro e w' ⟨x, rfl, g, c, rfl, ho, hb⟩
      exact ⟨⟨_, c, rfl, ho.rd⟩, hb⟩
end Go.Proofs.Ytlplhllcohoeaaa
