/-
  Append, Read, Back, Sync, and a loss of power with Open, over the disk and the tail together.
-/
import Derived.Test.YtlplhllcohoeaaaTps
namespace Go.Proofs.Ytlplhllcohoeaaa
open Go.RowKit
section
variable {B : Nat} {w : World} {db tb : Nat} {room : Int} {N : Nat} {dn : Bool} {l sf : List Int} {T : Nat → Prop}
/-- How an Append ends. -/
def AppEnd (room : Int) (dn dn' : Bool) (l l' b : List Int) (m : Nat) (at_ z : Int) : Prop :=
  (z = 0 ∧ at_ = l.length ∧ dn = false ∧ dn' = false ∧ (m : Int) ≤ max 0 (room - l.length) ∧ l' = l ++ b) ∨ (z = 8 ∧ at_ = 0 ∧ dn' = true ∧ l' = l) ∨ (z = 7 ∧ at_ = 0 ∧ dn = false ∧ dn' = false ∧ max 0 (room - l.length) < (m : Int) ∧ l' = l)
theorem fr_only {w w' : World} {S S' : Nat → Prop} (h : Fr w w' S S') : Only w w' S := h.only
def appDn (d : Dv) (room : Int) (n m : Nat) : Bool := if d.down = false ∧ m ≠ 0 ∧ ¬ room < (n : Int) + m ∧ d.armed = true ∧ d.left = 0 then true else d.down
theorem append_Tq {mb : Nat} {d : Dv} {S : Nat → Prop} {F : Option Nat} {Ap : Option Addr} {np cp : Nat} {ps : List (Int × Value)} (hq : Tq w db tb mb d room N l sf S F Ap np cp ps) (hd : d.down = dn) (hT : ∀ g, (S g ∨ g = tb) → B ≤ g) (A : Option Addr) (m c : Nat) (b : List Int) (hb : b.length = m) (hm : m ≤ 500) (hc : m ≤ c) (hr : RdB w w.heap.size A b) (hsep : ∀ a, A = some a → b ≠ [] → ¬ (S a.block ∨ a.block = tb)) (hN : N ≤ 900000) (hB : B ≤ w.heap.size) :
    ∃ dn', dn' = appDn d room l.length m ∧ Calls Try.prog 12 #[.pointer (some ⟨tb, 0, none⟩), .slice A m c] w fun e w' => ∃ at_ z l' T', e = .returned (.tuple #[.int .i64 at_, .int .i64 z]) ∧ Tp B w' db tb room (N + 600) dn' l' sf T' ∧ Fr w w' (fun g => S g ∨ g = tb) T' ∧ AppEnd room dn dn' l l' b m at_ z := by
  have hll := hq.ll
  have hr3 := hq.r3
  have hsum := hq.sum
  have hSB : ∀ g, S g → B ≤ g := fun g hg => hT g (.inl hg)
  have hfd : Fr w w.drew S S := Fr.of_below (belowDrewN (Below.refl _ _) 1)
  have hdw := hq.dk.drewN 1
  -- what stays where nothing is written
  have hstay : ∀ (w' : World), Below w.drew.heap.size w.drew w' → Tp B w' db tb room (N + 600) d.down l sf (fun g => S g ∨ g = tb) ∧ Fr w w' (fun g => S g ∨ g = tb) (fun g => S g ∨ g = tb) := fun w' hb' => by
    have hb2 : Below w.heap.size w w' := (belowDrewN (Below.refl _ _) 1).trans hb'
    exact ⟨⟨mb, d, S, F, Ap, np, cp, ps, (hq.up hb2).more (by omega), rfl, rfl, hT⟩, Fr.of_below hb2⟩
  have hoff : ∀ (w' : World), Dk w' db mb { d with down := true } sf.length N S F Ap np cp ps → Fr w.drew w' S S → Tp B w' db tb room (N + 600) true l sf (fun g => S g ∨ g = tb) ∧ Fr w w' (fun g => S g ∨ g = tb) (fun g => S g ∨ g = tb) := fun w' hd' hf' => by
    have hf2 := hfd.trans hf'
    exact ⟨⟨mb, _, S, F, Ap, np, cp, ps, (⟨hd', (hf2.beside tb hq.tl.lt hq.nt).1.trans hq.tl, hq.nt, hq.rm, hq.ll, hq.r3, hq.st⟩ : Tq w' db tb mb { d with down := true } room N l sf S F Ap np cp ps).more (by omega), rfl, rfl, hT⟩, hf2.tail0⟩
  have herr : ∀ (z : Int), z ≠ 0 → ∀ Q : World → Prop, Calls Try.prog 17 #[.pointer (some ⟨db, 0, none⟩), .string tl, .int .i64 l.length, .slice A m c] w.drew (fun e w' => e = .returned (.int .i64 z) ∧ Q w' ∧ Only w.drew w' S) →
      Calls Try.prog 12 #[.pointer (some ⟨tb, 0, none⟩), .slice A m c] w fun e w' => e = .returned (.tuple #[.int .i64 0, .int .i64 z]) ∧ Q w' ∧ Only w.drew w' S := fun z hz Q hW => Append_err w l.length m c A hq.tl (by omega) z hz Q hW hq.nt
  -- the power is off
  by_cases hdn : d.down = true
  · refine ⟨d.down, by unfold appDn; rw [if_neg (by rw [hdn]; simp)], (herr 8 (by decide) (fun w' => Below w.drew.heap.size w.drew w') ((Write_down w.drew hdw hdn l.length A m c).mono ?_)).mono ?_⟩
    · rintro e w' ⟨rfl, rfl⟩
      exact ⟨rfl, Below.refl _ _, Only.refl _ _⟩
    · rintro e w' ⟨rfl, hb', _⟩
      obtain ⟨h1, h2⟩ := hstay w' hb'
      exact ⟨0, 8, l, _, rfl, h1, h2, .inr (.inl ⟨rfl, rfl, hdn, rfl⟩)⟩
  have hdf : d.down = false := by simpa using hdn
  -- no bytes
  by_cases hm0 : m = 0
  · subst hm0
    have hbn : b = [] := List.eq_nil_of_length_eq_zero hb
    subst hbn
    have hW : Calls Try.prog 17 #[.pointer (some ⟨db, 0, none⟩), .string tl, .int .i64 l.length, .slice A 0 c] w.drew fun e w' => e = .returned (.int .i64 0) ∧ (w.drew = w') ∧ Only w.drew w' S := by
      rcases hq.st with ⟨rfl, _, rfl, _⟩ | ⟨fb, f, rfl, _⟩
      · refine (Write_none_gone w.drew hdw hdf A c).mono ?_
        rintro e w' ⟨rfl, rfl⟩
        exact ⟨rfl, rfl, Only.refl _ _⟩
      · refine (Write_none_file w.drew hdw hdf l.length (by omega) A c).mono ?_
        rintro e w' ⟨rfl, rfl⟩
        exact ⟨rfl, rfl, Only.refl _ _⟩
    refine ⟨d.down, by unfold appDn; rw [if_neg (by simp)], (Append_walk w l.length 0 c A hq.tl (by omega) _ hq.nt hW).mono ?_⟩
    rintro e w' ⟨rfl, w1, rfl, _, rfl, hT'⟩
    refine ⟨_, _, l, _, rfl, ⟨mb, d, S, F, Ap, np, cp, ps, (⟨hdw.settb hq.nt _, hT', hq.nt, hq.rm, hq.ll, hq.r3, hq.st⟩ : Tq _ db tb mb d room N l sf S F Ap np cp ps).more (by omega), rfl, rfl, hT⟩, hfd.tail _, .inl ⟨rfl, rfl, by rw [← hd]; exact hdf, hdf, by omega, by simp⟩⟩
  have hbne : b ≠ [] := by rintro rfl; simp at hb; omega
  have hsS : ∀ a, A = some a → ¬ S a.block := fun a e hx => hsep a e hbne (.inl hx)
  have hsl : sf.length ≤ l.length := (Tp.len ⟨mb, d, S, F, Ap, np, cp, ps, hq, hd, rfl, hT⟩).2.2.1
  have hmx : ∀ x : Int, room - l.length < x → 0 < x → max 0 (room - (l.length : Int)) < x := fun x h1 h2 => by omega
  -- no room
  by_cases hrm : room < (l.length : Int) + m
  · have hW : Calls Try.prog 17 #[.pointer (some ⟨db, 0, none⟩), .string tl, .int .i64 l.length, .slice A m c] w.drew fun e w' => e = .returned (.int .i64 7) ∧ Below w.drew.heap.size w.drew w' ∧ Only w.drew w' S := by
      rcases hq.st with ⟨rfl, _, rfl, _⟩ | ⟨fb, f, rfl, _⟩
      · refine (Write_fails_new w.drew hdw hdf A m c (by omega) (by omega) (by rw [hq.rm]; simp at hrm; omega)).mono ?_
        rintro e w' ⟨rfl, hb'⟩
        exact ⟨rfl, hb', Only.of_below hb'⟩
      · refine (Write_fails_file w.drew hdw hdf l.length (by omega) A m c (by omega) (by omega) ⟨by rw [hq.rm, hsum]; omega, by rw [hsum]; omega⟩).mono ?_
        rintro e w' ⟨rfl, hb'⟩
        exact ⟨rfl, hb', Only.of_below hb'⟩
    refine ⟨d.down, by unfold appDn; rw [if_neg (fun h => h.2.2.1 hrm)], (herr 7 (by decide) _ hW).mono ?_⟩
    rintro e w' ⟨rfl, hb', _⟩
    obtain ⟨h1, h2⟩ := hstay w' hb'
    exact ⟨0, 7, l, _, rfl, h1, h2, .inr (.inr ⟨rfl, rfl, by rw [← hd]; exact hdf, hdf, hmx _ (by omega) (by omega), rfl⟩)⟩
  -- the power goes off
  by_cases hpo : d.armed = true ∧ d.left = 0
  · have hW : Calls Try.prog 17 #[.pointer (some ⟨db, 0, none⟩), .string tl, .int .i64 l.length, .slice A m c] w.drew fun e w' => e = .returned (.int .i64 8) ∧ (Dk w' db mb { d with down := true } sf.length N S F Ap np cp ps ∧ Fr w.drew w' S S) ∧ Only w.drew w' S := by
      rcases hq.st with ⟨rfl, _, rfl, _⟩ | ⟨fb, f, rfl, _⟩
      · refine (Write_off_new w.drew hdw hdf A m c (by omega) (by omega) (by rw [hq.rm]; simp at hrm; omega) hpo.1 hpo.2).mono ?_
        rintro e w' ⟨rfl, h1, h2⟩
        exact ⟨rfl, ⟨h1, h2⟩, h2.only⟩
      · refine (Write_off_file w.drew hdw hdf l.length (by omega) A m c (by omega) (by omega) (by rw [hq.rm]; omega) hpo.1 hpo.2).mono ?_
        rintro e w' ⟨rfl, h1, h2⟩
        exact ⟨rfl, ⟨h1, h2⟩, h2.only⟩
    refine ⟨true, by unfold appDn; rw [if_pos ⟨hdf, hm0, hrm, hpo⟩], (herr 8 (by decide) _ hW).mono ?_⟩
    rintro e w' ⟨rfl, ⟨h1, h2⟩, _⟩
    obtain ⟨h3, h4⟩ := hoff w' h1 h2
    exact ⟨0, 8, l, _, rfl, h3, h4, .inr (.inl ⟨rfl, rfl, rfl, rfl⟩)⟩
  -- the bytes are laid
  have key : Calls Try.prog 17 #[.pointer (some ⟨db, 0, none⟩), .string tl, .int .i64 l.length, .slice A m c] w.drew fun e w' => e = .returned (.int .i64 0) ∧ (∃ fb f' Ap' np' cp' ps', Dk w' db mb { d with left := d.left - 1, chg := d.chg + 1, f := some f' } sf.length (N + m + 2) (Sx S w.drew w') (some fb) Ap' np' cp' ps' ∧ f'.now = l ++ b ∧ sf.length ≤ f'.safe.length ∧ f'.safe.take sf.length = sf ∧ (f'.sure = false → sf = [])) ∧ Only w.drew w' S := by
    rcases hq.st with ⟨rfl, _, rfl, rfl⟩ | ⟨fb, f, rfl, hf1, hf2, hf3, hf4, _, _, hf5⟩
    · refine (Write_new w.drew hdw hdf A m c b (by omega) (by omega) hb hc hr hsS (by omega) (by simp) (by rw [hq.rm]; simp at hrm; omega) hpo).mono ?_
      rintro e w' ⟨rfl, ⟨fb, Ap', np', cp', ps', hd'⟩, ho⟩
      refine ⟨rfl, ⟨fb, ⟨layL [] 0 b, [], false⟩, Ap', np', cp', ps', ?_, layL_end [] b, by simp, by simp, fun _ => rfl⟩, ho⟩
      unfold Dv.wrote at hd'
      rw [hq.dk.gone] at hd'
      exact hd'
    · refine (Write_file w.drew hdw hdf l.length (by omega) A m c b (by omega) (by omega) hb hc hr hsS (by omega) (by omega) (by rw [hq.rm]; omega) hpo).mono ?_
      rintro e w' ⟨rfl, ⟨Ap', np', cp', ps', hd'⟩, ho⟩
      refine ⟨rfl, ⟨fb, ⟨layL f.now l.length b, f.safe, f.sure⟩, Ap', np', cp', ps', ?_, by rw [hf2, layL_end], hf3, hf4, hf5⟩, ho⟩
      unfold Dv.wrote at hd'
      rw [hf1] at hd'
      exact hd'
  refine ⟨d.down, by unfold appDn; rw [if_neg (fun h => hpo h.2.2.2)], (Append_walk w l.length m c A hq.tl (by omega) _ hq.nt key).mono ?_⟩
  rintro e w' ⟨rfl, w1, ⟨fb, f', Ap', np', cp', ps', hd', q1, q2, q3, q4⟩, ho, rfl, hT'⟩
  have hF : Fr w w1 S (Sx S w.drew w1) := hfd.trans ho.fr
  have hnt : ¬ Sx S w.drew w1 tb := fun hx => hx.elim hq.nt fun hx => by
    have h1 : w.heap.size ≤ tb := hx.1
    have h2 := hq.tl.lt
    omega
  refine ⟨_, _, l ++ b, _, rfl, ⟨mb, _, _, some fb, Ap', np', cp', ps', (⟨hd'.settb hnt _, ?_, hnt, hq.rm, ?_, hr3, .inr ⟨fb, f', rfl, rfl, q1, q2, q3, ?_, ?_, q4⟩⟩ : Tq _ db tb mb _ room (N + m + 2) (l ++ b) sf _ (some fb) Ap' np' cp' ps').more (by omega), rfl, rfl, ?_⟩, hF.tail _, .inl ⟨rfl, rfl, by rw [← hd]; exact hdf, hdf, by omega, rfl⟩⟩
  · rw [List.length_append, hb]; exact hT'
  · rw [List.length_append, hb]; omega
  · rw [List.length_append]; omega
  · rw [List.take_append_of_le_length hsl]; exact (Tp.len ⟨mb, d, S, F, Ap, np, cp, ps, hq, hd, rfl, hT⟩).2.2.2
  · rintro g (hg | rfl)
    · exact hF.base hB hSB g hg
    · exact hT _ (.inr rfl)
theorem Tp.append (h : Tp B w db tb room N dn l sf T) (m : Nat) (b : List Int) (hb : b.length = m) (hm : m ≤ 500) (hN : N ≤ 900000) (hB : B ≤ w.heap.size) :
    ∃ dn', ∀ (w2 : World) (A : Option Addr) (c : Nat), Below w.heap.size w w2 → m ≤ c → RdB w2 w2.heap.size A b → (∀ a, A = some a → b ≠ [] → ¬ T a.block) →
    Calls Try.prog 12 #[.pointer (some ⟨tb, 0, none⟩), .slice A m c] w2 fun e w' => ∃ at_ z l' T', e = .returned (.tuple #[.int .i64 at_, .int .i64 z]) ∧ Tp B w' db tb room (N + 600) dn' l' sf T' ∧ Fr w2 w' T T' ∧ AppEnd room dn dn' l l' b m at_ z := by
  obtain ⟨mb, d, S, F, Ap, np, cp, ps, hq, hd, rfl, hT⟩ := h
  refine ⟨appDn d room l.length m, fun w2 A c hw hc hr hsep => ?_⟩
  obtain ⟨dn', e, hC⟩ := append_Tq (hq.up hw) hd hT A m c b hb hm hc hr hsep hN (Nat.le_trans hB hw.size)
  rw [← e]
  exact hC
end
end Go.Proofs.Ytlplhllcohoeaaa
