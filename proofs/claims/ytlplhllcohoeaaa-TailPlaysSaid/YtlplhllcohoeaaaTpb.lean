/-
  Read, Back and Sync, over the disk and the tail together.
-/
import Derived.Test.YtlplhllcohoeaaaTpa
namespace Go.Proofs.Ytlplhllcohoeaaa
open Go.RowKit
section
variable {B : Nat} {w : World} {db tb : Nat} {room : Int} {N : Nat} {dn : Bool} {l sf : List Int} {T : Nat → Prop}
theorem TRead_bad (w : World) (n : Nat) (x y : Int) (hT : TlAt w tb db n) (hn : n ≤ 16777216) (hx : x < 0 ∨ y < 0 ∨ (n : Int) < x ∨ (n : Int) - x < y) : Calls Try.prog 13 #[.pointer (some ⟨tb, 0, none⟩), .int .i64 x, .int .i64 y] w fun e w' => e = .returned (.tuple #[.slice none 0 0, .int .i64 2]) ∧ w = w' := by
  have c1 := hT.c1
  clear hT
  by_cases h1 : x < 0
  · clear hx
    go_enter Try.func13, Try.ntmps13
    go_wp2_with fail
    go_ret2
    exact ⟨rfl, rfl⟩
  by_cases h2 : y < 0
  · clear hx
    go_enter Try.func13, Try.ntmps13
    go_wp2_with fail
    go_ret2
    exact ⟨rfl, rfl⟩
  by_cases h3 : (n : Int) < x
  · clear hx
    go_enter Try.func13, Try.ntmps13
    go_wp2_with fail
    go_ret2
    exact ⟨rfl, rfl⟩
  have h4 : (n : Int) - x < y := by omega
  have q1 : IntKind.i64.wrap ((n : Int) - x) = (n : Int) - x := IntWalk.i64_in _ (by omega)
  clear hx
  go_enter Try.func13, Try.ntmps13
  go_wp2_with fail
  go_ret2
  exact ⟨rfl, rfl⟩
theorem TRead_zero (w : World) (n x : Nat) (hT : TlAt w tb db n) (hx : x ≤ n) (hn : n ≤ 16777216) : Calls Try.prog 13 #[.pointer (some ⟨tb, 0, none⟩), .int .i64 x, .int .i64 0] w fun e w' => e = .returned (.tuple #[.slice none 0 0, .int .i64 0]) ∧ w = w' := by
  have c1 := hT.c1
  clear hT
  have q1 : IntKind.i64.wrap ((n : Int) - x) = (n : Int) - x := IntWalk.i64_in _ (by omega)
  have q2 : ¬ ((n : Int) - x < 0) := by omega
  have q3 : ¬ ((n : Int) < x) := by omega
  go_enter Try.func13, Try.ntmps13
  go_wp2_with fail
  go_ret2
  exact ⟨rfl, rfl⟩
theorem TRead_err (w : World) (n at_ m : Nat) (hT : TlAt w tb db n) (hm : 0 < m) (hin : at_ + m ≤ n) (hn : n ≤ 16777216) (z : Int)
    (HR : Calls Try.prog 29 #[.pointer (some ⟨db, 0, none⟩), .string tl, .int .i64 at_, .int .i64 m] w fun e w' => e = .returned (.tuple #[.slice none 0 0, .int .i64 z]) ∧ w = w') :
    Calls Try.prog 13 #[.pointer (some ⟨tb, 0, none⟩), .int .i64 at_, .int .i64 m] w fun e w' => e = .returned (.tuple #[.slice none 0 0, .int .i64 z]) ∧ w = w' := by
  have c0 := hT.c0
  have c1 := hT.c1
  have q1 : IntKind.i64.wrap ((n : Int) - at_) = (n : Int) - at_ := IntWalk.i64_in _ (by omega)
  have q2 : ¬ ((n : Int) - at_ < (m : Int)) := by omega
  have q3 : ¬ ((n : Int) < (at_ : Int)) := by omega
  have q4 : ¬ m = 0 := by omega
  have HHR := Lib.hid HR
  clear hT HR
  go_enter Try.func13, Try.ntmps13
  go_wp2_with fail
  refine HHR.out.mono ?_
  rintro e w1 ⟨rfl, rfl⟩
  go_wp2_with fail
  go_ret2
  exact ⟨rfl, rfl⟩
/-- Whether a Read asks for what there is. -/
def Within (l : List Int) (x y : Int) : Prop := 0 ≤ x ∧ 0 ≤ y ∧ x ≤ l.length ∧ y ≤ l.length - x
theorem Tp.readBad (h : Tp B w db tb room N dn l sf T) (x y : Int) (hn : ¬ Within l x y) :
    Calls Try.prog 13 #[.pointer (some ⟨tb, 0, none⟩), .int .i64 x, .int .i64 y] w fun e w' => e = .returned (.tuple #[.slice none 0 0, .int .i64 2]) ∧ w = w' := by
  have hl := h.len
  obtain ⟨mb, d, S, F, Ap, np, cp, ps, hq, hd, rfl, hT⟩ := h
  exact TRead_bad w l.length x y hq.tl (by omega) (by unfold Within at hn; omega)
theorem Tp.readDown (h : Tp B w db tb room N true l sf T) (x y : Nat) (hn : Within l x y) (hy : 0 < y) :
    Calls Try.prog 13 #[.pointer (some ⟨tb, 0, none⟩), .int .i64 x, .int .i64 y] w fun e w' => e = .returned (.tuple #[.slice none 0 0, .int .i64 8]) ∧ w = w' := by
  have hl := h.len
  obtain ⟨mb, d, S, F, Ap, np, cp, ps, hq, hd, rfl, hT⟩ := h
  unfold Within at hn
  exact TRead_err w l.length x y hq.tl hy (by omega) (by omega) 8 (Read_down w hq.dk hd x y)
theorem Tp.readOk (h : Tp B w db tb room N dn l sf T) (x y : Nat) (hn : Within l x y) (hy : 0 < y → dn = false) :
    Calls Try.prog 13 #[.pointer (some ⟨tb, 0, none⟩), .int .i64 x, .int .i64 y] w fun e w' => (∃ A c, e = .returned (.tuple #[.slice A y c, .int .i64 0]) ∧ OwnB w' w.heap.size A y c ((l.drop x).take y)) ∧ Below w.heap.size w w' := by
  have hl := h.len
  obtain ⟨mb, d, S, F, Ap, np, cp, ps, hq, hd, rfl, hT⟩ := h
  unfold Within at hn
  by_cases hy0 : y = 0
  · subst hy0
    refine (TRead_zero w l.length x hq.tl (by omega) (by omega)).mono ?_
    rintro e w' ⟨rfl, rfl⟩
    exact ⟨⟨none, 0, rfl, by rw [List.take_zero]; exact OwnB.nil _ _⟩, Below.refl _ _⟩
  · rcases hq.st with ⟨rfl, _, rfl, _⟩ | ⟨fb, f, rfl, hf1, hf2, _⟩
    · simp at hn; omega
    · have hR := (Read_file w hq.dk (by rw [hd]; exact hy (by omega)) f hf1 x y (by omega) (by rw [hf2]; omega)).mono (fun e w' h => (show ∃ v, e = .returned (.tuple #[v, .int .i64 0]) ∧ (∃ g c, v = .slice (some ⟨g, 0, none⟩) y c ∧ OwnB w' w.heap.size (some ⟨g, 0, none⟩) y c ((l.drop x).take y) ∧ Below w.heap.size w w') from by
        obtain ⟨⟨g, c, he, ho⟩, hb⟩ := h
        rw [hf2] at ho
        exact ⟨_, he, g, c, rfl, ho, hb⟩))
      refine (TRead_walk w l.length x y hq.tl (by omega) (by omega) (by omega) (fun v w' => ∃ g c, v = .slice (some ⟨g, 0, none⟩) y c ∧ OwnB w' w.heap.size (some ⟨g, 0, none⟩) y c ((l.drop x).take y) ∧ Below w.heap.size w w') hR).mono ?_
      rintro e w' ⟨v, rfl, g, c, rfl, ho, hb⟩
      exact ⟨⟨_, c, rfl, ho⟩, hb⟩
/-- How a Back ends. -/
def BackEnd (dn dn' : Bool) (l l' sf sf' : List Int) (x z : Int) : Prop :=
  (z = 2 ∧ (x < 0 ∨ (l.length : Int) < x) ∧ dn' = dn ∧ l' = l ∧ sf' = sf) ∨
  (z = 0 ∧ 0 ≤ x ∧ x ≤ l.length ∧ l' = l.take x.toNat ∧ sf' = (if x < sf.length then l.take x.toNat else sf)) ∨
  (z = 8 ∧ 0 ≤ x ∧ x ≤ l.length ∧ dn' = true ∧ l' = l ∧ sf' = sf)
theorem take_take_le (sf l : List Int) (m : Nat) (_h : m ≤ l.length) (hm : m ≤ sf.length) (hs : l.take sf.length = sf) (s2 : List Int) (h2 : s2.take sf.length = sf) : s2.take m = l.take m := by
  have e1 : s2.take m = (s2.take sf.length).take m := by rw [List.take_take]; congr 1; omega
  have e2 : l.take m = (l.take sf.length).take m := by rw [List.take_take]; congr 1; omega
  rw [e1, e2, h2, hs]
theorem Tp.back (h : Tp B w db tb room N dn l sf T) (x : Int) (hN : N ≤ 900000) (hB : B ≤ w.heap.size) :
    ∃ dn', Calls Try.prog 18 #[.pointer (some ⟨tb, 0, none⟩), .int .i64 x] w fun e w' => ∃ z l' sf' T', e = .returned (.int .i64 z) ∧ Tp B w' db tb room (N + 600) dn' l' sf' T' ∧ Fr w w' T T' ∧ BackEnd dn dn' l l' sf sf' x z := by
  have hlen := h.len
  have h0 := h
  obtain ⟨mb, d, S, F, Ap, np, cp, ps, hq, hd, rfl, hT⟩ := h
  have hSB : ∀ g, S g → B ≤ g := fun g hg => hT g (.inl hg)
  by_cases hbad : x < 0 ∨ (l.length : Int) < x
  · refine ⟨dn, (Back_bad w l.length x hq.tl hbad).mono ?_⟩
    rintro e w' ⟨rfl, rfl⟩
    exact ⟨2, l, sf, _, rfl, h0.more (by omega), Fr.refl _ _, .inl ⟨rfl, hbad, rfl, rfl, rfl⟩⟩
  obtain ⟨n, rfl⟩ := Int.eq_ofNat_of_zero_le (show 0 ≤ x by omega)
  have hnl : n ≤ l.length := by omega
  by_cases hsame : n = l.length
  · subst hsame
    refine ⟨dn, (Back_same w l.length hq.tl).mono ?_⟩
    rintro e w' ⟨rfl, rfl⟩
    exact ⟨0, l, sf, _, rfl, h0.more (by omega), Fr.refl _ _, .inr (.inl ⟨rfl, by omega, by omega, by simp, by rw [if_neg (by omega)]⟩)⟩
  have hlt : n < l.length := by omega
  by_cases hdn : d.down = true
  · refine ⟨true, (Back_err w l.length n hq.tl hlt 8 (by decide) (fun w' => w = w') (Cut_down w hq.dk hdn n)).mono ?_⟩
    rintro e w' ⟨rfl, rfl⟩
    exact ⟨8, l, sf, _, rfl, by rw [← hdn, hd]; exact h0.more (by omega), Fr.refl _ _, .inr (.inr ⟨rfl, by omega, by omega, rfl, rfl, rfl⟩)⟩
  have hdf : d.down = false := by simpa using hdn
  rcases hq.st with ⟨rfl, _, rfl, _⟩ | ⟨fb, f, rfl, hf1, hf2, hf3, hf4, hf5, hf6, hf7⟩
  · simp at hlt
  by_cases hpo : d.armed = true ∧ d.left = 0
  · refine ⟨true, (Back_err w l.length n hq.tl hlt 8 (by decide) _ (Cut_off w hq.dk hdf f hf1 n (by rw [hf2]; omega) hpo.1 hpo.2)).mono ?_⟩
    rintro e w' ⟨rfl, h1, h2⟩
    exact ⟨8, l, sf, _, rfl, ⟨mb, _, S, some fb, Ap, np, cp, ps, (⟨h1, (h2.beside tb hq.tl.lt hq.nt).1.trans hq.tl, hq.nt, hq.rm, hq.ll, hq.r3, .inr ⟨fb, f, rfl, hf1, hf2, hf3, hf4, hf5, hf6, hf7⟩⟩ : Tq w' db tb mb { d with down := true } room N l sf S (some fb) Ap np cp ps).more (by omega), rfl, rfl, hT⟩, h2.tail0, .inr (.inr ⟨rfl, by omega, by omega, rfl, rfl, rfl⟩)⟩
  obtain ⟨sf', hsf'⟩ : ∃ sf', sf' = (if (n : Int) < sf.length then l.take n else sf) := ⟨_, rfl⟩
  have hs1 : sf'.length ≤ n ∧ sf'.length ≤ sf.length ∧ (l.take n).take sf'.length = sf' ∧ f.safe.take sf'.length = sf' ∧ sf'.length ≤ f.safe.length ∧ (sf = [] → sf' = []) := by
    by_cases hc : (n : Int) < sf.length
    · rw [if_pos hc] at hsf'
      have e1 : sf'.length = n := by rw [hsf', List.length_take]; omega
      rw [e1]
      refine ⟨Nat.le_refl _, by omega, by rw [List.take_take, Nat.min_self, hsf'], ?_, by omega, fun hz => by rw [hz] at hc; simp at hc; omega⟩
      rw [hsf']
      exact take_take_le sf l n hnl (by omega) hf6 f.safe hf4
    · rw [if_neg hc] at hsf'
      subst hsf'
      refine ⟨by omega, Nat.le_refl _, ?_, hf4, hf3, fun h => h⟩
      rw [List.take_take, Nat.min_eq_left (by omega), hf6]
  obtain ⟨hs1, hs2, hs3, hs4, hs5, hs6⟩ := hs1
  have hC := (Cut_file w (hq.dk.lower (lo' := (sf'.length : Int)) (by omega)) hdf f hf1 n (by rw [hf2]; omega) (by omega) (by omega) hpo).mono (fun e w' h => (show e = .returned (.int .i64 0) ∧ (∃ S' Ap' np' cp' ps', Dk w' db mb { d with left := d.left - 1, chg := d.chg + 1, f := some ⟨f.now.take n, f.safe, f.sure⟩ } sf'.length (N + 3) S' (some fb) Ap' np' cp' ps' ∧ Fr w w' S S') ∧ TlAt w' tb db l.length from by
    obtain ⟨h1, S', Ap', np', cp', ps', h2, h3⟩ := h
    exact ⟨h1, ⟨S', Ap', np', cp', ps', h2, h3⟩, (h3.beside tb hq.tl.lt hq.nt).1.trans hq.tl⟩))
  refine ⟨d.down, (Back_cut w l.length n hq.tl hlt _ hC).mono ?_⟩
  rintro e w' ⟨rfl, w1, ⟨S', Ap', np', cp', ps', hd', hf⟩, rfl, hT'⟩
  have hnt : ¬ S' tb := (hf.beside tb hq.tl.lt hq.nt).2
  have hlt' : (l.take n).length = n := by rw [List.length_take]; omega
  refine ⟨0, l.take n, sf', _, rfl, ⟨mb, _, S', some fb, Ap', np', cp', ps', (⟨hd'.settb hnt _, ?_, hnt, hq.rm, ?_, hq.r3, .inr ⟨fb, _, rfl, rfl, by rw [hf2], hs5, hs4, by omega, hs3, fun h => hs6 (hf7 h)⟩⟩ : Tq _ db tb mb _ room (N + 3) (l.take n) sf' S' (some fb) Ap' np' cp' ps').more (by omega), rfl, rfl, ?_⟩, hf.tail _, .inr (.inl ⟨rfl, by omega, by omega, rfl, hsf'⟩)⟩
  · rw [hlt']; exact hT'
  · have := hq.ll; omega
  · rintro g (hg | rfl)
    · exact hf.base hB hSB g hg
    · exact hT _ (.inr rfl)
/-- How a Sync ends. -/
def SyncEnd (dn dn' : Bool) (l sf sf' : List Int) (z : Int) : Prop := (z = 0 ∧ dn' = dn ∧ sf' = l) ∨ (z = 8 ∧ dn' = true ∧ sf' = sf)
theorem Tp.sync (h : Tp B w db tb room N dn l sf T) (hN : N ≤ 900000) (hB : B ≤ w.heap.size) :
    ∃ dn', Calls Try.prog 19 #[.pointer (some ⟨tb, 0, none⟩)] w fun e w' => ∃ z sf' T', e = .returned (.int .i64 z) ∧ Tp B w' db tb room (N + 600) dn' l sf' T' ∧ Fr w w' T T' ∧ SyncEnd dn dn' l sf sf' z := by
  have h0 := h
  obtain ⟨mb, d, S, F, Ap, np, cp, ps, hq, hd, rfl, hT⟩ := h
  have hSB : ∀ g, S g → B ≤ g := fun g hg => hT g (.inl hg)
  by_cases hdn : d.down = true
  · refine ⟨true, (TSync_walk w l.length hq.tl 8 (fun w' => w = w') (Sync_down w hq.dk hdn)).mono ?_⟩
    rintro e w' ⟨rfl, rfl⟩
    exact ⟨8, sf, _, rfl, by rw [← hdn, hd]; exact h0.more (by omega), Fr.refl _ _, .inr ⟨rfl, rfl, rfl⟩⟩
  have hdf : d.down = false := by simpa using hdn
  rcases hq.st with ⟨rfl, _, rfl, rfl⟩ | ⟨fb, f, rfl, hf1, hf2, hf3, hf4, hf5, hf6, hf7⟩
  · refine ⟨dn, (TSync_walk w _ hq.tl 6 (fun w' => w = w') (Sync_gone w hq.dk hdf)).mono ?_⟩
    rintro e w' ⟨rfl, rfl⟩
    exact ⟨0, [], _, rfl, h0.more (by omega), Fr.refl _ _, .inl ⟨rfl, rfl, rfl⟩⟩
  by_cases hpo : d.armed = true ∧ d.left = 0
  · refine ⟨true, (TSync_walk w l.length hq.tl 8 _ (Sync_off w hq.dk hdf hpo.1 hpo.2)).mono ?_⟩
    rintro e w' ⟨rfl, h1, h2⟩
    exact ⟨8, sf, _, rfl, ⟨mb, _, S, some fb, Ap, np, cp, ps, (⟨h1, (h2.beside tb hq.tl.lt hq.nt).1.trans hq.tl, hq.nt, hq.rm, hq.ll, hq.r3, .inr ⟨fb, f, rfl, hf1, hf2, hf3, hf4, hf5, hf6, hf7⟩⟩ : Tq w' db tb mb { d with down := true } room N l sf S (some fb) Ap np cp ps).more (by omega), rfl, rfl, hT⟩, h2.tail0, .inr ⟨rfl, rfl, rfl⟩⟩
  refine ⟨d.down, (TSync_walk w l.length hq.tl 0 _ (Sync_file w hq.dk hdf hpo (by omega) f hf1)).mono ?_⟩
  rintro e w' ⟨rfl, S', hd', hf⟩
  have hnt : ¬ S' tb := (hf.beside tb hq.tl.lt hq.nt).2
  refine ⟨0, l, _, rfl, ⟨mb, _, S', some fb, none, 0, 0, [], (⟨hd'.relo _, (hf.beside tb hq.tl.lt hq.nt).1.trans hq.tl, hnt, hq.rm, hq.ll, hq.r3, .inr ⟨fb, _, rfl, rfl, hf2, by rw [hf2]; exact Nat.le_refl _, by rw [hf2]; simp, Nat.le_refl _, by simp, fun h => by cases h⟩⟩ : Tq _ db tb mb _ room (N + 1) l l S' (some fb) none 0 0 []).more (by omega), rfl, rfl, ?_⟩, hf.tail0, .inl ⟨rfl, hd, rfl⟩⟩
  rintro g (hg | rfl)
  · exact hf.base hB hSB g hg
  · exact hT _ (.inr rfl)
end
end Go.Proofs.Ytlplhllcohoeaaa
