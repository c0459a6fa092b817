/-
  Running a plan that may be run, step by step: plain.
-/
import Derived.Test.YteceephenfmdoaaKLawr
import Derived.Test.YteceephenfmdoaaSD
namespace Go.Proofs.Yteceephenfmdoaa
theorem stashB_next (orig : List Int) {stash : List R} {k : Nat} {r : R} (h : stash[k]? = some r) : stashB orig (stash.take (k + 1)) = stashB orig (stash.take k) ++ (orig.drop r.1.toNat).take (r.2 - r.1).toNat := by
  unfold stashB
  rw [Sc.take_snoc stash k r h, List.flatMap_append]
  simp
/-- The file behind the first so many waves. -/
def fileW (p : Pln) (orig tail : List Int) (i : Nat) : List Int := (p.waves.take i).foldl (waveF tail (stashB orig p.stash)) (file0 orig p.size)
theorem fileW_next {p : Pln} {orig tail : List Int} {i : Nat} {v : List Stp} (h : p.waves[i]? = some v) : fileW p orig tail (i + 1) = waveF tail (stashB orig p.stash) (fileW p orig tail i) v := by
  unfold fileW
  rw [Sc.take_snoc _ i v h, List.foldl_append]; rfl
theorem fileW_all (p : Pln) (orig tail : List Int) : fileW p orig tail p.waves.length = fileF p orig tail := by
  unfold fileW fileF
  rw [List.take_length]
/-- Behind the first so many steps of a wave. -/
def putsK (srcs : List (List Int)) (f : List Int) (v : List Stp) (k : Nat) : List Int := (v.take k).foldl (putW srcs) f
theorem putsK_next {srcs : List (List Int)} {f : List Int} {v : List Stp} {k : Nat} {s : Stp} (h : v[k]? = some s) : putsK srcs f v (k + 1) = splB (putsK srcs f v k) (64 * s.1).toNat (Sc.textB srcs s.2) := by
  unfold putsK
  rw [Sc.take_snoc _ k s h, List.foldl_append]; rfl
theorem putsK_all (tail st f : List Int) (v : List Stp) : putsK [f, tail, st] f v v.length = waveF tail st f v := by
  unfold putsK waveF
  rw [List.take_length]
theorem wavesP_at {n size tail st : Int} : ∀ (W : List (List Stp)) (wr : Int → Bool) (i : Nat) (v : List Stp), WavesP n size tail st wr W → W[i]? = some v → ∃ wr', WaveP n size tail st wr' v := by
  intro W
  induction W with
  | nil => intro wr i v _ h; simp at h
  | cons a W ih =>
    intro wr i v h hv
    obtain ⟨h1, h2⟩ := h
    cases i with
    | zero => simp at hv; subst hv; exact ⟨wr, h1⟩
    | succ i => exact ih _ i v h2 (by simpa using hv)
/-- A part that may be read is there. -/
theorem PartP.has {size tail stash : Int} {wr : Int → Bool} {x : S} {f t st : List Int} (h : PartP size tail stash wr x) (hx : Sc.okS x) (hf : size ≤ f.length) (ht : tail ≤ t.length) (hs : stash ≤ st.length) : Sc.Has [f, t, st] x := by
  obtain ⟨h3, h4, _⟩ := h
  unfold Sc.okS at hx
  unfold Sc.Has Sc.srcOf
  have : x.src = 0 ∨ x.src = 1 ∨ x.src = 2 := by omega
  rcases this with e | e | e
  · rw [if_neg (by omega), if_neg (by omega)] at h3 h4
    rw [e]
    refine ⟨by simp, ?_, ?_⟩ <;> (simp; omega)
  · rw [if_pos e] at h3 h4
    rw [e]
    refine ⟨by simp, ?_, ?_⟩ <;> (simp; omega)
  · rw [if_neg (by omega), if_pos e] at h3 h4
    rw [e]
    refine ⟨by simp, ?_, ?_⟩ <;> (simp; omega)
/-- What a step writes: its text, and where. -/
theorem StepP.text {n size tail stash : Int} {wr : Int → Bool} {s : Stp} {f t st : List Int} (h : StepP n size tail stash wr s) (hf : size ≤ f.length) (_hn : n ≤ f.length) (hn0 : n ≤ 1048576) (ht : tail ≤ t.length) (hs : stash ≤ st.length) :
    (∀ x ∈ s.2, Sc.Has [f, t, st] x) ∧ Sc.TextE [f, t, st] s.2 = 0 ∧ Sc.TextL [f, t, st] s.2 = Sc.textB [f, t, st] s.2 ∧ 0 ≤ s.1 ∧ 64 * s.1 + (Sc.textB [f, t, st] s.2).length ≤ n ∧ (Sc.textB [f, t, st] s.2).length ≤ 64 ∧ 1 ≤ (Sc.textB [f, t, st] s.2).length ∧ s.1 < 16384 := by
  obtain ⟨h0, h1, h2, h3, h4, h5⟩ := h
  have hh : ∀ x ∈ s.2, Sc.Has [f, t, st] x := fun x hx => (h5 x hx).has (h2.1 x hx) hf ht hs
  have hl := Sc.textB_length hh h2.1
  have hE : Sc.TextE [f, t, st] s.2 = 0 := by unfold Sc.TextE; rw [if_pos h2, Sc.textE_all hh]
  have ht9 := h2.2
  unfold blocksN at h1
  exact ⟨hh, hE, Sc.TextL_ok hE, h0, by omega, by omega, by omega, by omega⟩
theorem file0_ge (orig : List Int) (n : Int) : (file0 orig n).length = max orig.length n.toNat := file0_len orig n
theorem putW_len {srcs : List (List Int)} {f : List Int} {s : Stp} (h : 0 ≤ s.1 ∧ 64 * s.1 + (Sc.textB srcs s.2).length ≤ f.length) : (putW srcs f s).length = f.length := by
  unfold putW
  exact splB_len (by omega)
/-- The file's length stays. -/
theorem putsK_len {p : Pln} {on tn : Nat} {wr : Int → Bool} {f t st : List Int} {v : List Stp} (hn0 : p.size ≤ 1048576) (hf : on ≤ f.length) (hn : p.size ≤ f.length) (ht : tn ≤ t.length) (hs : tot p.stash ≤ st.length) (hw : ∀ s ∈ v, StepP p.size on tn (tot p.stash) wr s) : ∀ k, (putsK [f, t, st] f v k).length = f.length := by
  intro k
  induction k with
  | zero => rfl
  | succ k ih =>
    cases hv : v[k]? with
    | none =>
      have hl := List.getElem?_eq_none_iff.1 hv
      unfold putsK at ih ⊢
      rw [List.take_of_length_le (by omega)] at ih ⊢
      exact ih
    | some s =>
      rw [putsK_next hv]
      have h1 := (hw s (List.mem_of_getElem? hv)).text (f := f) (t := t) (st := st) (by omega) hn hn0 (by omega) hs
      rw [splB_len (by omega)]
      exact ih
theorem fileW_len {p : Pln} {orig tail : List Int} (hP : PlanP p orig.length tail.length) : ∀ i, (fileW p orig tail i).length = max orig.length p.size.toNat := by
  obtain ⟨h0, h1, hR, hsz, hW⟩ := hP
  have hst := stash_len p.stash (-1) orig (by omega) hR hsz
  intro i
  induction i with
  | zero => exact file0_len _ _
  | succ i ih =>
    cases hv : p.waves[i]? with
    | none =>
      have hl := List.getElem?_eq_none_iff.1 hv
      unfold fileW at ih ⊢
      rw [List.take_of_length_le (by omega)] at ih ⊢
      exact ih
    | some v =>
      obtain ⟨wr, hv2⟩ := wavesP_at _ _ _ _ hW hv
      rw [fileW_next hv, ← putsK_all]
      rw [putsK_len (on := orig.length) (tn := tail.length) h1 (by omega) (by omega) (Nat.le_refl _) (by omega) hv2.2.2.1]
      exact ih
end Go.Proofs.Yteceephenfmdoaa
