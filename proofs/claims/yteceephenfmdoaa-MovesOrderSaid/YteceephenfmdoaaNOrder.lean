/-
  A plan that may be run reads no block that was written ahead: plain.
-/
import Derived.Test.YteceephenfmdoaaNRunp
import Derived.Test.YteceephenfmdoaaMWrit
namespace Go.Proofs.Yteceephenfmdoaa
/-- The blocks that the first so many waves write. -/
def wrK (W : List (List Stp)) (k : Nat) : Int → Bool := (W.take k).foldl wrote (fun _ => false)
theorem wrK_next {W : List (List Stp)} {k : Nat} {v : List Stp} (h : W[k]? = some v) (b : Int) : wrK W (k + 1) b = (wrK W k b || v.any fun s => s.1 == b) := by
  unfold wrK
  rw [Sc.take_snoc W k v h, List.foldl_append]
  exact wrote_at v b _
theorem wavesP_wr {n size tail st : Int} : ∀ (W : List (List Stp)) (wr : Int → Bool) (k : Nat) (v : List Stp), WavesP n size tail st wr W → W[k]? = some v → WaveP n size tail st ((W.take k).foldl wrote wr) v := by
  intro W
  induction W with
  | nil => intro wr k v _ h; simp at h
  | cons a W ih =>
    intro wr k v h hv
    obtain ⟨h1, h2⟩ := h
    cases k with
    | zero => simp at hv; subst hv; exact h1
    | succ k => rw [List.take_succ_cons, List.foldl_cons]; exact ih _ k v h2 (by simpa using hv)
/-- What a wave leaves as it was. -/
theorem wave_old {p : Pln} {on tn : Nat} {wr : Int → Bool} {f t st : List Int} {v : List Stp} (hn0 : p.size ≤ 1048576) (hf : on ≤ f.length) (hn : p.size ≤ f.length) (ht : tn ≤ t.length) (hs : tot p.stash ≤ st.length) (hw : ∀ s ∈ v, StepP p.size on tn (tot p.stash) wr s) (i : Nat) : ∀ k, (∀ s ∈ v.take k, s.1 ≠ (i : Int) / 64) → (putsK [f, t, st] f v k)[i]? = f[i]? := by
  intro k
  induction k with
  | zero => intro _; rfl
  | succ k ih =>
    intro h
    have h0 := ih (fun s hs => h s (by
      rw [List.take_add_one]
      exact List.mem_append_left _ hs))
    cases hv : v[k]? with
    | none =>
      have hl := List.getElem?_eq_none_iff.1 hv
      unfold putsK at h0 ⊢
      rw [List.take_of_length_le (by omega)] at h0 ⊢
      exact h0
    | some s =>
      rw [putsK_next hv]
      have h1 := (hw s (List.mem_of_getElem? hv)).text (f := f) (t := t) (st := st) (by omega) hn hn0 (by omega) hs
      have h2 := putsK_len hn0 hf hn ht hs hw k
      have h3 := h s (by rw [Sc.take_snoc v k s hv]; simp)
      obtain ⟨_, _, _, z0, z1, z2, z3, z4⟩ := h1
      rw [splB_get (by omega), if_neg (by rintro ⟨a1, a2⟩; omega)]
      exact h0
theorem order_old {p : Pln} {orig tail : List Int} (hP : PlanP p orig.length tail.length) : ∀ (k i : Nat), i < orig.length → wrK p.waves k ((i : Int) / 64) = false → (fileW p orig tail k)[i]? = orig[i]? := by
  have hlen := fileW_len hP
  obtain ⟨h0, h1, hR, hsz, hW⟩ := hP
  have hst := stash_len p.stash (-1) orig (by omega) hR hsz
  intro k
  induction k with
  | zero => intro i hi _; exact file0_old _ hi
  | succ k ih =>
    intro i hi hw
    cases hv : p.waves[k]? with
    | none =>
      have hl := List.getElem?_eq_none_iff.1 hv
      unfold fileW wrK at *
      rw [List.take_of_length_le (by omega)] at hw ih ⊢
      exact ih i hi hw
    | some v =>
      rw [wrK_next hv, Bool.or_eq_false_iff] at hw
      obtain ⟨wr, hv2⟩ := wavesP_at _ _ _ _ hW hv
      have hl := hlen k
      rw [fileW_next hv, ← putsK_all, wave_old (on := orig.length) (tn := tail.length) h1 (by omega) (by omega) (Nat.le_refl _) (by omega) hv2.2.2.1 i _ (fun s hs he => by
        rw [List.take_length] at hs
        have := List.any_eq_false.1 hw.2 s hs
        simp [he] at this)]
      exact ih i hi hw.1
/-- A part of the original reads of the file what it reads of the original. -/
theorem order_part {p : Pln} {orig tail : List Int} (hP : PlanP p orig.length tail.length) {k : Nat} {v : List Stp} (hv : p.waves[k]? = some v) {s : Stp} (hs : s ∈ v) {x : S} (hx : x ∈ s.2) (h0 : x.src = 0) :
    ((fileW p orig tail k).drop x.at_.toNat).take x.len.toNat = (orig.drop x.at_.toNat).take x.len.toNat := by
  have hold := order_old hP k
  obtain ⟨_, _, _, _, hW⟩ := hP
  have hw := (wavesP_wr _ _ _ _ hW hv).2.2.1 s hs
  have hok := hw.2.2.1.1 x hx
  obtain ⟨p1, p2, p3⟩ := hw.2.2.2.2.2 x hx
  rw [if_neg (by omega), if_neg (by omega)] at p1 p2
  unfold Sc.okS at hok
  apply List.ext_getElem?
  intro i
  by_cases hi : i < x.len.toNat
  · rw [List.getElem?_take_of_lt hi, List.getElem?_take_of_lt hi, List.getElem?_drop, List.getElem?_drop]
    exact hold _ (by omega) (p3 h0 _ (by omega) (by omega))
  · rw [List.getElem?_eq_none (by rw [List.length_take]; omega), List.getElem?_eq_none (by rw [List.length_take]; omega)]
/-- A step's text is that of the original. -/
theorem order_text {p : Pln} {orig tail : List Int} (hP : PlanP p orig.length tail.length) {k : Nat} {v : List Stp} (hv : p.waves[k]? = some v) {s : Stp} (hs : s ∈ v) :
    Sc.textB [fileW p orig tail k, tail, stashB orig p.stash] s.2 = Sc.textB [orig, tail, stashB orig p.stash] s.2 := by
  unfold Sc.textB
  rw [List.flatMap_def, List.flatMap_def]
  congr 1
  refine List.map_congr_left fun x hx => ?_
  by_cases h0 : x.src = 0
  · have h := order_part hP hv hs hx h0
    unfold Sc.pieceB Sc.srcOf
    rw [h0]
    simpa using h
  · have hW := hP.2.2.2.2
    have hok := ((wavesP_wr _ _ _ _ hW hv).2.2.1 s hs).2.2.1.1 x hx
    unfold Sc.okS at hok
    unfold Sc.pieceB Sc.srcOf
    have : x.src = 1 ∨ x.src = 2 := by omega
    rcases this with e | e <;> rw [e] <;> rfl
theorem order_puts {p : Pln} {orig tail : List Int} (hP : PlanP p orig.length tail.length) {k : Nat} {v : List Stp} (hv : p.waves[k]? = some v) (g : List Int) : ∀ j, putsK [orig, tail, stashB orig p.stash] g v j = putsK [fileW p orig tail k, tail, stashB orig p.stash] g v j := by
  intro j
  induction j with
  | zero => rfl
  | succ j ih =>
    cases hs : v[j]? with
    | none =>
      have hl := List.getElem?_eq_none_iff.1 hs
      unfold putsK at ih ⊢
      rw [List.take_of_length_le (by omega)] at ih ⊢
      exact ih
    | some s => rw [putsK_next hs, putsK_next hs, ih, order_text hP hv (List.mem_of_getElem? hs)]
/-- A step's text of sources that have what it reads. -/
theorem StepP.text0 {n size tail stash : Int} {wr : Int → Bool} {s : Stp} {f t st : List Int} (h : StepP n size tail stash wr s) (hf : size ≤ f.length) (hn0 : n ≤ 1048576) (ht : tail ≤ t.length) (hs : stash ≤ st.length) :
    Sc.TextE [f, t, st] s.2 = 0 ∧ Sc.TextL [f, t, st] s.2 = Sc.textB [f, t, st] s.2 ∧ 0 ≤ s.1 ∧ 64 * s.1 + (Sc.textB [f, t, st] s.2).length ≤ n ∧ (Sc.textB [f, t, st] s.2).length ≤ 64 ∧ s.1 < 16384 := by
  obtain ⟨h0, h1, h2, h3, h4, h5⟩ := h
  have hh : ∀ x ∈ s.2, Sc.Has [f, t, st] x := fun x hx => (h5 x hx).has (h2.1 x hx) hf ht hs
  have hl := Sc.textB_length hh h2.1
  have hE : Sc.TextE [f, t, st] s.2 = 0 := by unfold Sc.TextE; rw [if_pos h2, Sc.textE_all hh]
  have ht9 := h2.2
  unfold blocksN at h1
  exact ⟨hE, Sc.TextL_ok hE, h0, by omega, by omega, by omega⟩
/-- A part of the original in a plan that may be run. -/
theorem part_in {n size tail stash : Int} {wr : Int → Bool} {s : Stp} (h : StepP n size tail stash wr s) {x : S} (hx : x ∈ s.2) (h0 : x.src = 0) : 0 ≤ x.at_ ∧ 1 ≤ x.len ∧ x.at_ + x.len ≤ size := by
  obtain ⟨_, _, h2, _, _, h5⟩ := h
  have h3 := h2.1 x hx
  obtain ⟨p1, p2, _⟩ := h5 x hx
  rw [if_neg (by omega), if_neg (by omega)] at p1 p2
  unfold Sc.okS at h3
  omega
end Go.Proofs.Yteceephenfmdoaa
