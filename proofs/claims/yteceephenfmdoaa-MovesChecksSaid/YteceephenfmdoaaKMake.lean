/-
  Make's loops, plain: the blocks of a target; how many steps read each block; what freeing a block does; a target that rises stashes nothing.
-/
import Derived.Test.YteceephenfmdoaaKWplan
namespace Go.Proofs.Yteceephenfmdoaa
/-- The bytes of a block of a target: where they come from. -/
def blkB (l : List S) (j : Nat) : List (Int × Int) := ((Sc.bts l).drop (64 * j)).take 64
/-- A block that stays as it was. -/
def Stays (l : List S) (j : Nat) : Prop := blkB l j = Sc.sb ⟨0, 64 * (j : Int), min 64 (Sc.tot l - 64 * (j : Int))⟩
theorem bts_eq_joined {a b : List S} (ha : Sc.Ok a) (hb : Sc.Ok b) (ja : Sc.joinL a = a) (jb : Sc.joinL b = b) (h : Sc.bts a = Sc.bts b) : a = b := by rw [← ja, ← jb]; exact Sc.joinL_congr ha hb h
theorem joinL_one (s : S) : Sc.joinL [s] = [s] := by simp [Sc.joinL, Sc.glue_nil]
/-- A step that is made for a block. -/
structure StepOf (l : List S) (s : Stp) : Prop where
  lo : 0 ≤ s.1
  hi : 64 * s.1 < Sc.tot l
  may : Sc.MayP s.2
  join : Sc.joinL s.2 = s.2
  bt : Sc.bts s.2 = blkB l s.1.toNat
  moves : ¬ Stays l s.1.toNat
/-- The next block is cut off. -/
theorem cut_next {l rest : List S} (hl : Sc.MayP l) (hr : Sc.MayP rest) {k : Nat} (hk : 64 * (k : Int) < Sc.tot l) (hb : Sc.bts rest = (Sc.bts l).drop (64 * k)) {n : Int} (hn : n = min 64 (Sc.tot l - 64 * (k : Int))) :
    Sc.cutE rest n = 0 ∧ Sc.MayP (Sc.cutA rest n) ∧ Sc.joinL (Sc.cutA rest n) = Sc.cutA rest n ∧ Sc.bts (Sc.cutA rest n) = blkB l k ∧ Sc.tot (Sc.cutA rest n) = n ∧ Sc.MayP (Sc.cutB rest n) ∧ Sc.bts (Sc.cutB rest n) = (Sc.bts l).drop (64 * (k + 1)) := by
  have l1 := Sc.bts_length hl.1
  have l2 := Sc.bts_length hr.1
  have l3 : (Sc.bts rest).length = (Sc.bts l).length - 64 * k := by rw [hb, List.length_drop]
  have ht : Sc.tot rest = Sc.tot l - 64 * (k : Int) := by omega
  have hE : Sc.cutE rest n = 0 := by
    unfold Sc.cutE
    rw [if_neg (by simpa using hr), if_neg (by omega)]
  have hA : Sc.cutA rest n = Sc.joinL (Sc.partL rest 0 n) := by unfold Sc.cutA; rw [if_pos hE]
  have hB : Sc.cutB rest n = Sc.joinL (Sc.partL rest n (Sc.tot rest)) := by unfold Sc.cutB; rw [if_pos hE]
  have o1 := Sc.partL_ok hr.1 0 n
  have o2 := Sc.partL_ok hr.1 n (Sc.tot rest)
  have b1 := Sc.bts_partL hr.1 0 n
  have b2 := Sc.bts_partL hr.1 n (Sc.tot rest)
  have t1 := Sc.tot_partL hr.1 0 n (by omega) (by omega) (by omega)
  have t2 := Sc.tot_partL hr.1 n (Sc.tot rest) (by omega) (by omega) (by omega)
  have hrm := hr.2
  refine ⟨hE, ?_, ?_, ?_, ?_, ?_, ?_⟩
  · rw [hA]; exact Sc.may_joinL o1 (by omega)
  · rw [hA]; exact Sc.joinL_joinL o1
  · rw [hA, Sc.bts_joinL o1, b1]
    unfold blkB
    simp only [Int.toNat_zero, List.drop_zero]
    rw [hb]
    by_cases h : 64 ≤ Sc.tot l - 64 * (k : Int)
    · have : n.toNat = 64 := by omega
      rw [this]
    · rw [List.take_of_length_le (by rw [List.length_drop]; omega), List.take_of_length_le (by rw [List.length_drop]; omega)]
  · rw [hA, Sc.tot_joinL, t1]; omega
  · rw [hB]; exact Sc.may_joinL o2 (by omega)
  · rw [hB, Sc.bts_joinL o2, b2, List.take_of_length_le (by omega), hb, List.drop_drop]
    by_cases h : 64 ≤ Sc.tot l - 64 * (k : Int)
    · congr 1; omega
    · rw [List.drop_eq_nil_of_le (by omega), List.drop_eq_nil_of_le (by omega)]
/-- Is the piece the very block of the original? -/
theorem stays_iff {l parts : List S} (hl : Sc.MayP l) {k : Nat} (hk : 64 * (k : Int) < Sc.tot l) (hp : Sc.MayP parts) (hj : Sc.joinL parts = parts) (hb : Sc.bts parts = blkB l k) (ht : Sc.tot parts = min 64 (Sc.tot l - 64 * (k : Int))) :
    Stays l k ↔ ∃ x, parts = [x] ∧ x.src = 0 ∧ x.at_ = 64 * (k : Int) := by
  have hm := hl.2
  constructor
  · intro h
    refine ⟨⟨0, 64 * (k : Int), min 64 (Sc.tot l - 64 * (k : Int))⟩, ?_, rfl, rfl⟩
    refine bts_eq_joined hp.1 (fun s hs => ?_) hj (joinL_one _) ?_
    · simp at hs; subst hs; unfold Sc.okS; simp only; omega
    · rw [hb, h, Sc.bts_one]
  · rintro ⟨x, rfl, h0, h1⟩
    unfold Stays
    rw [← hb, Sc.bts_one]
    obtain ⟨src, a, n⟩ := x
    simp only at h0 h1
    subst h0; subst h1
    simp only [Sc.tot] at ht
    congr 2
    omega
/-! ### How many read -/
theorem filter_perm {L : List Int} (hn : L.Nodup) {p : Int → Bool} (h : ∀ j, p j = true → j ∈ L) (hk : ∀ j ∈ L, j ∈ keysL) : (keysL.filter p).length = (L.filter p).length := by
  have hp : (keysL.filter p).Perm (L.filter p) := (List.perm_ext_iff_of_nodup (nodup_keysL.filter _) (hn.filter _)).2 (fun j => by
    simp only [List.mem_filter]
    exact ⟨fun h1 => ⟨h j h1.2, h1.2⟩, fun h1 => ⟨hk j h1.1, h1.2⟩⟩)
  exact hp.length_eq
/-- How many of some steps read a block. -/
def cntL (u : Int → Option StV) (st : List R) (L : List Int) (k : Int) : Nat := (L.filter (readsB u st k)).length
theorem cntL_le (u : Int → Option StV) (st : List R) (L : List Int) (k : Int) : cntL u st L k ≤ L.length := List.length_filter_le _ _
theorem cntL_next {u : Int → Option StV} {st : List R} (L : List Int) {j : Int} {s : StV} (hs : u j = some s) (k : Int) : cntL u st (L ++ [j]) k = cntL u st L k + (if k ∈ readsOf st s then 1 else 0) := by
  unfold cntL
  rw [List.filter_append, List.length_append]
  congr 1
  have e : readsB u st k j = decide (k ∈ readsOf st s) := by unfold readsB; rw [hs]
  by_cases h : k ∈ readsOf st s
  · rw [if_pos h]
    have e2 : readsB u st k j = true := by rw [e]; exact decide_eq_true h
    rw [List.filter_cons, if_pos e2]; rfl
  · rw [if_neg h]
    have e2 : ¬ readsB u st k j = true := by rw [e]; simpa using h
    rw [List.filter_cons, if_neg e2]; rfl
theorem cntL_all {u : Int → Option StV} {st : List R} {L : List Int} (hn : L.Nodup) (h : ∀ j, (u j).isSome = true ↔ j ∈ L) (hk : ∀ j ∈ L, j ∈ keysL) (k : Int) : cntL u st L k = cntU u st k := by
  unfold cntL cntU
  refine (filter_perm hn (fun j hj => ?_) hk).symm
  refine (h j).1 ?_
  unfold readsB at hj
  cases hu : u j with
  | none => rw [hu] at hj; cases hj
  | some s => rfl
/-! ### Freeing a block -/
theorem readsOf_free {u : Int → Option StV} {b : Int} {st st' : List R} (hst : Is st' (FreeP u b st)) (t : StV) (k : Int) (hk : k ∈ readsOf st' t) : k ∈ readsOf st t := by
  unfold readsOf at *
  rw [mem_reads] at *
  obtain ⟨h1, x, ⟨h2, h3, h4⟩, h5⟩ := hk
  exact ⟨h1, x, ⟨h2, h3, fun h => h4 ((hst.2 x).2 ⟨h2, .inl h⟩)⟩, h5⟩
theorem readsOf_free_ne {u : Int → Option StV} {b : Int} {st st' : List R} (hst : Is st' (FreeP u b st)) (t : StV) {k : Int} (hne : k ≠ b) : k ∈ readsOf st' t ↔ k ∈ readsOf st t := by
  refine ⟨readsOf_free hst t k, fun hk => ?_⟩
  unfold readsOf at *
  rw [mem_reads] at *
  obtain ⟨h1, x, ⟨h2, h3, h4⟩, h5⟩ := hk
  refine ⟨h1, x, ⟨h2, h3, fun h => ?_⟩, h5⟩
  rcases ((hst.2 x).1 h).2 with h6 | h6
  · exact h4 h6
  · omega
theorem readsOf_free_own {u : Int → Option StV} {b : Int} {st st' : List R} (hst : Is st' (FreeP u b st)) {j : Int} {t : StV} (ht : u j = some t) (hj : t.blk = j) : b ∉ readsOf st' t := by
  intro hk
  unfold readsOf at hk
  rw [mem_reads] at hk
  obtain ⟨h1, x, ⟨h2, h3, h4⟩, h5⟩ := hk
  exact h4 ((hst.2 x).2 ⟨h2, .inr ⟨h5, j, t, ht, by rw [← hj]; exact fun e => h1 e.symm, h3⟩⟩)
theorem cntU_none {u : Int → Option StV} {st : List R} {k : Int} (h : ∀ j t, u j = some t → k ∉ readsOf st t) : (0 : Int) = (cntU u st k : Int) := by
  have e : cntU u st k = 0 := by
    unfold cntU
    rw [List.length_eq_zero_iff, List.filter_eq_nil_iff]
    intro j _
    unfold readsB
    cases hu : u j with
    | none => simp
    | some t => simpa using h j t hu
  generalize cntU u st k = n at *
  omega
theorem cntU_congr {u : Int → Option StV} {st st' : List R} {k : Int} (h : ∀ j, readsB u st k j = readsB u st' k j) : cntU u st k = cntU u st' k := by
  have e : readsB u st k = readsB u st' k := funext h
  unfold cntU
  rw [e]
theorem TI.freed {u0 : Int → Option StV} {Z : Int → Prop} {st st' : List R} {u : Int → Option StV} {rd : Int → Int} {order : List StV} {b : Int} (h : TI u0 Z st u rd order []) (hb : 0 ≤ b ∧ b < 20000) (hst : Is st' (FreeP u b st)) :
    TI u0 Z st' u (updI rd b 0) order [b] := by
  have hblk : ∀ j t, u j = some t → t.blk = j := fun j t ht => (h.kdom j t (h.dom j t ht)).2.1
  refine ⟨h.dom, h.kdom, h.part, h.ord0, h.nod, fun k k0 k1 => ?_, fun c hc => ?_, h.pw.imp (fun {s t} h1 h2 => h1 (readsOf_free hst t _ h2)), fun s hs j t ht h2 => h.fut s hs j t ht (readsOf_free hst t _ h2), fun c hc h0 => ?_⟩
  · by_cases hk : k = b
    · have e1 : updI rd b 0 k = 0 := by unfold updI; rw [if_pos hk]
      have e2 := cntU_none (u := u) (st := st') (k := k) fun j t ht => by rw [hk]; exact readsOf_free_own hst ht (hblk j t ht)
      exact e1.trans e2
    · have e1 : updI rd b 0 k = rd k := by unfold updI; rw [if_neg hk]
      rw [e1, h.rdc k k0 k1]
      exact congrArg (fun (n : Nat) => (n : Int)) (cntU_congr fun j => by
        unfold readsB
        cases hu : u j with
        | none => rfl
        | some t => exact decide_eq_decide.2 (readsOf_free_ne hst t hk).symm)
  · simp at hc
    subst hc
    exact ⟨hb, by simp [updI]⟩
  · by_cases hcb : c = b
    · exact .inl (by simp [hcb])
    · have e1 : updI rd b 0 c = rd c := by unfold updI; rw [if_neg hcb]
      rw [e1] at h0
      rcases h.prog c hc h0 with h1 | h1
      · cases h1
      · exact .inr h1
/-! ### A target that rises -/
/-- The bytes of the original come in rising order. -/
def Rises (l : List S) : Prop := (Sc.bts l).Pairwise fun a b => a.1 = 0 → b.1 = 0 → a.2 < b.2
theorem bts_need {parts : List S} (_h : Sc.Ok parts) (x : Int) : Need parts x ↔ (0, x) ∈ Sc.bts parts := by
  constructor
  · rintro ⟨s, hs, h0, h1, h2⟩
    refine List.mem_flatMap.2 ⟨s, hs, List.mem_map.2 ⟨(x - s.at_).toNat, List.mem_range.2 (by omega), ?_⟩⟩
    simp only [Prod.mk.injEq]
    exact ⟨h0, by omega⟩
  · intro hq
    obtain ⟨s, hs, hq⟩ := List.mem_flatMap.1 hq
    obtain ⟨h0, h1, h2⟩ := sb_mem s _ hq
    exact ⟨s, hs, h0.symm, h1, h2⟩
theorem mem_blkB {l : List S} {j : Nat} {q : Int × Int} (h : q ∈ blkB l j) : ∃ t : Nat, 64 * j ≤ t ∧ t < 64 * j + 64 ∧ (Sc.bts l)[t]? = some q := by
  unfold blkB at h
  obtain ⟨i, hi⟩ := List.mem_iff_getElem?.1 h
  have hl := (List.getElem?_eq_some_iff.1 hi).1
  rw [List.length_take] at hl
  rw [List.getElem?_take_of_lt (by omega), List.getElem?_drop] at hi
  exact ⟨64 * j + i, by omega, by omega, hi⟩
theorem rises_lt {l : List S} (h : Rises l) {t t' : Nat} {x x' : Int} (h1 : (Sc.bts l)[t]? = some (0, x)) (h2 : (Sc.bts l)[t']? = some (0, x')) (hx : x < x') : t < t' := by
  have a1 := List.getElem?_eq_some_iff.1 h1
  have a2 := List.getElem?_eq_some_iff.1 h2
  by_cases hlt : t < t'
  · exact hlt
  · exfalso
    by_cases he : t = t'
    · subst he
      rw [h1] at h2
      injection h2 with h2
      injection h2 with _ h2
      omega
    · have h3 := List.pairwise_iff_getElem.1 h t' t a2.1 a1.1 (by omega)
      rw [a2.2, a1.2] at h3
      have := h3 rfl rfl
      omega
/-- Steps that all wait for one another do not rise. -/
theorem no_ring {l : List S} (hr : Rises l) {u : Int → Option StV} (hu : ∀ j s, u j = some s → (0 ≤ j ∧ j < 20000) ∧ s.blk = j ∧ Sc.Ok s.parts ∧ Sc.bts s.parts = blkB l j.toNat) (hw : ∀ c, (u c).isSome = true → ∃ j s, u j = some s ∧ c ∈ readsOf [] s) : ∀ c, u c = none := by
  -- what is read, and where it stands in the target
  have key : ∀ j s c, u j = some s → c ∈ readsOf [] s → c ≠ j ∧ ∃ (t : Nat) (x : Int), 64 * j ≤ t ∧ (t : Int) < 64 * j + 64 ∧ (Sc.bts l)[t]? = some (0, x) ∧ x / 64 = c := fun j s c hs hc => by
    obtain ⟨h1, h2, h3, h4⟩ := hu j s hs
    unfold readsOf at hc
    rw [mem_reads] at hc
    obtain ⟨h5, x, ⟨_, h6, _⟩, h7⟩ := hc
    rw [bts_need h3, h4] at h6
    obtain ⟨t, t1, t2, t3⟩ := mem_blkB h6
    exact ⟨by rw [← h2]; exact h5, t, x, by omega, by omega, t3, h7⟩
  -- none reads a later block
  have up : ∀ (n : Nat) j s c, j.toNat ≤ n → u j = some s → c ∈ readsOf [] s → ¬ j < c := by
    intro n
    induction n with
    | zero =>
      intro j s c hj hs hc hlt
      obtain ⟨j', s', hs', hc'⟩ := hw j (by rw [hs]; rfl)
      obtain ⟨_, t, x, t1, t2, t3, t4⟩ := key j s c hs hc
      obtain ⟨hne, t', x', t1', t2', t3', t4'⟩ := key j' s' j hs' hc'
      have := rises_lt hr t3' t3 (by omega)
      have := (hu j s hs).1
      have := (hu j' s' hs').1
      omega
    | succ n ih =>
      intro j s c hj hs hc hlt
      obtain ⟨j', s', hs', hc'⟩ := hw j (by rw [hs]; rfl)
      obtain ⟨_, t, x, t1, t2, t3, t4⟩ := key j s c hs hc
      obtain ⟨hne, t', x', t1', t2', t3', t4'⟩ := key j' s' j hs' hc'
      have h1 := rises_lt hr t3' t3 (by omega)
      have h2 := (hu j s hs).1
      have h3 := (hu j' s' hs').1
      exact ih j' s' j (by omega) hs' hc' (by omega)
  -- nor an earlier one
  have down : ∀ (n : Nat) c, 20000 - c.toNat ≤ n → (u c).isSome = true → False := by
    intro n
    induction n with
    | zero =>
      intro c hc hs
      obtain ⟨s, hs⟩ := Option.isSome_iff_exists.1 hs
      have := (hu c s hs).1
      omega
    | succ n ih =>
      intro c hc hs
      obtain ⟨s, hs'⟩ := Option.isSome_iff_exists.1 hs
      obtain ⟨j, s2, hj, hcj⟩ := hw c hs
      have h1 := (key j s2 c hj hcj).1
      have h2 := up j.toNat j s2 c (Nat.le_refl _) hj hcj
      have h3 := (hu c s hs').1
      have h4 := (hu j s2 hj).1
      exact ih j (by omega) (by rw [hj]; rfl)
  intro c
  cases hc : u c with
  | none => rfl
  | some s => exact (down _ c (Nat.le_refl _) (by rw [hc]; rfl)).elim
end Go.Proofs.Yteceephenfmdoaa
