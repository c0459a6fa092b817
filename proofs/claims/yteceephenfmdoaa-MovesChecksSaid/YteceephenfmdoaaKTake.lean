/-
  The steps that are not ordered yet, how many of them read each block, and those that are ordered: plain.
-/
import Derived.Test.YteceephenfmdoaaKFrame
namespace Go.Proofs.Yteceephenfmdoaa
def keysL : List Int := (List.range 20000).map fun (i : Nat) => (i : Int)
theorem mem_keysL (j : Int) : j ∈ keysL ↔ 0 ≤ j ∧ j < 20000 := by
  unfold keysL
  rw [List.mem_map]
  constructor
  · rintro ⟨i, hi, rfl⟩
    have := List.mem_range.1 hi
    omega
  · rintro ⟨h0, h1⟩
    exact ⟨j.toNat, List.mem_range.2 (by omega), by omega⟩
theorem nodup_keysL : keysL.Nodup := by
  unfold keysL
  rw [List.nodup_iff_pairwise_ne, List.pairwise_map]
  exact List.pairwise_lt_range.imp fun {i j} h => by omega
theorem len_keysL : keysL.length = 20000 := by unfold keysL; rw [List.length_map, List.length_range]
theorem count_one (K : List Int) (hn : K.Nodup) (p p' : Int → Bool) (b : Int) (hb : b ∈ K) (h : ∀ j, j ≠ b → p' j = p j) (hb' : p' b = false) : (K.filter p).length = (K.filter p').length + (if p b then 1 else 0) := by
  induction K with
  | nil => cases hb
  | cons a K ih =>
    rw [List.nodup_cons] at hn
    rw [List.filter_cons, List.filter_cons]
    by_cases hab : a = b
    · subst hab
      have e : K.filter p = K.filter p' := List.filter_congr fun x hx => (h x (fun e => hn.1 (e ▸ hx))).symm
      rw [e, hb']
      cases p a <;> simp
    · have hbK : b ∈ K := by
        rcases List.mem_cons.1 hb with e | e
        · exact absurd e.symm hab
        · exact e
      have e := ih hn.2 hbK
      rw [h a hab]
      cases p a <;> simp <;> omega
/-- What a step reads of the original. -/
def readsOf (st : List R) (s : StV) : List Int := reads s.blk s.parts st
def readsB (u : Int → Option StV) (st : List R) (k : Int) (j : Int) : Bool := match u j with | some s => decide (k ∈ readsOf st s) | none => false
/-- How many steps read a block. -/
def cntU (u : Int → Option StV) (st : List R) (k : Int) : Nat := (keysL.filter (readsB u st k)).length
theorem cntU_le (u : Int → Option StV) (st : List R) (k : Int) : cntU u st k ≤ 20000 := by
  unfold cntU
  have := List.length_filter_le (readsB u st k) keysL
  rw [len_keysL] at this
  exact this
def cardU (u : Int → Option StV) : Nat := (keysL.filter fun j => (u j).isSome).length
theorem cardU_le (u : Int → Option StV) : cardU u ≤ 20000 := by
  unfold cardU
  have := List.length_filter_le (fun j => (u j).isSome) keysL
  rw [len_keysL] at this
  exact this
theorem updS_same (u : Int → Option StV) (k : Int) (x : Option StV) : updS u k x k = x := by simp [updS]
theorem updS_other (u : Int → Option StV) {k j : Int} (x : Option StV) (h : j ≠ k) : updS u k x j = u j := by simp [updS, h]
theorem cntU_drop {u : Int → Option StV} {b : Int} {s : StV} (hs : u b = some s) (hb : b ∈ keysL) (st : List R) (k : Int) : cntU u st k = cntU (updS u b none) st k + (if k ∈ readsOf st s then 1 else 0) := by
  unfold cntU
  have h := count_one keysL nodup_keysL (readsB u st k) (readsB (updS u b none) st k) b hb (fun j hj => by unfold readsB; rw [updS_other _ _ hj]) (by unfold readsB; rw [updS_same])
  rw [h]
  have e : readsB u st k b = decide (k ∈ readsOf st s) := by unfold readsB; rw [hs]
  rw [e]
  by_cases hk : k ∈ readsOf st s
  · rw [if_pos (decide_eq_true hk), if_pos hk]
  · rw [if_neg (by simpa using hk), if_neg hk]
theorem cardU_drop {u : Int → Option StV} {b : Int} {s : StV} (hs : u b = some s) (hb : b ∈ keysL) : cardU u = cardU (updS u b none) + 1 := by
  unfold cardU
  have h := count_one keysL nodup_keysL (fun j => (u j).isSome) (fun j => (updS u b none j).isSome) b hb (fun j hj => by rw [updS_other _ _ hj]) (by rw [updS_same]; rfl)
  rw [h]
  simp [hs]
theorem cntU_zero {u : Int → Option StV} {st : List R} {k : Int} (h : cntU u st k = 0) {j : Int} {s : StV} (hs : u j = some s) (hj : j ∈ keysL) : k ∉ readsOf st s := by
  intro hk
  unfold cntU at h
  have h1 := List.length_eq_zero_iff.1 h
  have h2 : j ∈ keysL.filter (readsB u st k) := List.mem_filter.2 ⟨hj, by unfold readsB; rw [hs]; simpa using hk⟩
  rw [h1] at h2
  cases h2
/-- Which steps there were, which are left, how many read each block, which are ordered, and which wait to be looked at. -/
structure TI (u0 : Int → Option StV) (Z : Int → Prop) (st : List R) (u : Int → Option StV) (rd : Int → Int) (order : List StV) (T : List Int) : Prop where
  dom : ∀ j s, u j = some s → u0 j = some s
  kdom : ∀ j s, u0 j = some s → (0 ≤ j ∧ j < 20000) ∧ s.blk = j ∧ ∀ x, Need s.parts x → x < 1048576
  part : ∀ j s, u0 j = some s → u j = some s ∨ s ∈ order
  ord0 : ∀ s ∈ order, u0 s.blk = some s ∧ u s.blk = none
  nod : (order.map StV.blk).Nodup
  rdc : ∀ k, 0 ≤ k → k < 20000 → rd k = cntU u st k
  tz : ∀ c ∈ T, (0 ≤ c ∧ c < 20000) ∧ rd c = 0
  pw : order.Pairwise fun s t => s.blk ∉ readsOf st t
  fut : ∀ s ∈ order, ∀ j t, u j = some t → s.blk ∉ readsOf st t
  prog : ∀ c, (u c).isSome = true → rd c = 0 → c ∈ T ∨ Z c
section
variable {u0 : Int → Option StV} {Z : Int → Prop} {st : List R} {u : Int → Option StV} {rd : Int → Int} {order : List StV} {T : List Int} {b : Int}
theorem TI.pop_none (h : TI u0 Z st u rd order (T ++ [b])) (hb : u b = none) : TI u0 Z st u rd order T :=
  ⟨h.dom, h.kdom, h.part, h.ord0, h.nod, h.rdc, fun c hc => h.tz c (List.mem_append_left _ hc), h.pw, h.fut, fun c hc h0 => by
    rcases h.prog c hc h0 with h1 | h1
    · rcases List.mem_append.1 h1 with h1 | h1
      · exact .inl h1
      · simp at h1; subst h1; rw [hb] at hc; cases hc
    · exact .inr h1⟩
/-- Behind so many of the blocks that a step read. -/
def rdP (rd : Int → Int) (K : List Int) (i : Nat) : Int → Int := fun k => if k ∈ K.take i then rd k - 1 else rd k
def tP (rd : Int → Int) (T K : List Int) (i : Nat) : List Int := T ++ (K.take i).filter fun k => decide (rd k = 1)
theorem rdP_next {rd : Int → Int} {K : List Int} (hn : K.Nodup) {i : Nat} {k : Int} (hk : K[i]? = some k) : rdP rd K i k = rd k ∧ updI (rdP rd K i) k (rd k - 1) = rdP rd K (i + 1) := by
  have h1 : k ∉ K.take i := fun hin => by
    have e := Sc.take_snoc K i k hk
    have h2 : (K.take (i + 1)).Nodup := hn.sublist (List.take_sublist _ _)
    rw [e, List.nodup_append] at h2
    exact h2.2.2 k hin k (by simp) rfl
  refine ⟨by unfold rdP; rw [if_neg h1], ?_⟩
  funext j
  unfold updI rdP
  rw [Sc.take_snoc K i k hk]
  by_cases hj : j = k
  · subst hj; simp
  · simp [hj]
theorem tP_next {rd : Int → Int} {T K : List Int} {i : Nat} {k : Int} (hk : K[i]? = some k) : tP rd T K (i + 1) = tP rd T K i ++ (if rd k = 1 then [k] else []) := by
  unfold tP
  rw [Sc.take_snoc K i k hk, List.filter_append, List.append_assoc]
  congr 2
  by_cases h : rd k = 1 <;> simp [h]
theorem tP_len (rd : Int → Int) (T K : List Int) (i : Nat) : (tP rd T K i).length ≤ T.length + K.length := by
  unfold tP
  rw [List.length_append]
  have := List.length_filter_le (fun k => decide (rd k = 1)) (K.take i)
  have := List.length_take_le' i K
  omega
theorem readsOf_len {st : List R} {s : StV} (h : ∀ x, Need s.parts x → x < 1048576) : (readsOf st s).length ≤ 16384 := by
  have := rise_len (readsOf st s) 0 16384 (reads_rise _ _ _) (fun c hc => by have := reads_bound _ _ _ h hc; omega)
  omega
theorem readsOf_bound {st : List R} {s : StV} (h : ∀ x, Need s.parts x → x < 1048576) {k : Int} (hk : k ∈ readsOf st s) : 0 ≤ k ∧ k < 16384 := by have := reads_bound _ _ _ h hk; omega
theorem own_not_read {st : List R} {s : StV} : s.blk ∉ readsOf st s := fun h => ((mem_reads _ _ _ _).1 h).1 rfl
theorem TI.pop_some (h : TI u0 Z st u rd order (T ++ [b])) {s : StV} (hs : u b = some s) : TI u0 Z st (updS u b none) (rdP rd (readsOf st s) (readsOf st s).length) (order ++ [s]) (tP rd T (readsOf st s) (readsOf st s).length) := by
  have hu0 := h.dom b s hs
  obtain ⟨hb, hblk, hnb⟩ := h.kdom b s hu0
  have hbk : b ∈ keysL := (mem_keysL b).2 hb
  have hz := (h.tz b (by simp)).2
  have hc0 : cntU u st b = 0 := by have := h.rdc b hb.1 hb.2; omega
  have hcz : ∀ j t, u j = some t → b ∉ readsOf st t := fun j t ht => cntU_zero hc0 ht ((mem_keysL j).2 (h.kdom j t (h.dom j t ht)).1)
  have hrd : ∀ k, rdP rd (readsOf st s) (readsOf st s).length k = if k ∈ readsOf st s then rd k - 1 else rd k := fun k => by unfold rdP; rw [List.take_length]
  have hub : ∀ j t, updS u b none j = some t → j ≠ b ∧ u j = some t := fun j t ht => by
    by_cases hj : j = b
    · subst hj; rw [updS_same] at ht; cases ht
    · exact ⟨hj, by rwa [updS_other _ _ hj] at ht⟩
  refine ⟨fun j t ht => h.dom j t (hub j t ht).2, h.kdom, fun j t ht => ?_, fun t ht => ?_, ?_, fun k k0 k1 => ?_, fun c hc => ?_, ?_, fun t ht j t' ht' => ?_, fun c hc h0 => ?_⟩
  · rcases h.part j t ht with h1 | h1
    · by_cases hj : j = b
      · subst hj
        rw [hs] at h1
        injection h1 with h1
        subst h1
        exact .inr (by simp)
      · exact .inl (by rwa [updS_other _ _ hj])
    · exact .inr (by simp [h1])
  · rcases List.mem_append.1 ht with ht | ht
    · obtain ⟨h1, h2⟩ := h.ord0 t ht
      refine ⟨h1, ?_⟩
      by_cases hj : t.blk = b
      · rw [hj, updS_same]
      · rw [updS_other _ _ hj]; exact h2
    · simp at ht
      subst ht
      rw [hblk]
      exact ⟨hu0, updS_same _ _ _⟩
  · rw [List.map_append, List.nodup_append]
    refine ⟨h.nod, by simp, fun x hx y hy => ?_⟩
    simp at hy
    subst hy
    obtain ⟨t, ht, rfl⟩ := List.mem_map.1 hx
    intro e
    have h2 := (h.ord0 t ht).2
    rw [e, hblk, hs] at h2
    cases h2
  · have h1 := cntU_drop hs hbk st k
    have h2 := h.rdc k k0 k1
    rw [hrd]
    by_cases hk : k ∈ readsOf st s
    · rw [if_pos hk] at h1 ⊢; omega
    · rw [if_neg hk] at h1 ⊢; omega
  · unfold tP at hc
    rw [List.take_length] at hc
    rcases List.mem_append.1 hc with hc | hc
    · obtain ⟨h1, h2⟩ := h.tz c (List.mem_append_left _ hc)
      refine ⟨h1, ?_⟩
      rw [hrd, if_neg]
      · exact h2
      · have h3 : cntU u st c = 0 := by have := h.rdc c h1.1 h1.2; omega
        exact cntU_zero h3 hs hbk
    · obtain ⟨h1, h2⟩ := List.mem_filter.1 hc
      have h3 := readsOf_bound hnb h1
      have h4 : rd c = 1 := by simpa using h2
      refine ⟨by omega, ?_⟩
      rw [hrd, if_pos h1]; omega
  · rw [List.pairwise_append]
    refine ⟨h.pw, by simp, fun t ht t' ht' => ?_⟩
    simp at ht'
    subst ht'
    exact h.fut t ht b t' hs
  · obtain ⟨_, h2⟩ := hub j t' ht'
    rcases List.mem_append.1 ht with ht | ht
    · exact h.fut t ht j t' h2
    · simp at ht
      subst ht
      rw [hblk]
      exact hcz j t' h2
  · obtain ⟨t, ht⟩ := Option.isSome_iff_exists.1 hc
    obtain ⟨hne, hut⟩ := hub c t ht
    have hcb := (h.kdom c t (h.dom c t hut)).1
    rw [hrd] at h0
    by_cases hk : c ∈ readsOf st s
    · rw [if_pos hk] at h0
      left
      unfold tP
      rw [List.take_length]
      exact List.mem_append_right _ (List.mem_filter.2 ⟨hk, by simp; omega⟩)
    · rw [if_neg hk] at h0
      rcases h.prog c (by rw [hut]; rfl) h0 with h1 | h1
      · rcases List.mem_append.1 h1 with h1 | h1
        · exact .inl (List.mem_append_left _ h1)
        · simp at h1; exact absurd h1 hne
      · exact .inr h1
theorem TI.order_len (h : TI u0 Z st u rd order T) : order.length ≤ 20000 := by
  have := below_len 20000 (order.map StV.blk) h.nod (fun x hx => by
    obtain ⟨t, ht, rfl⟩ := List.mem_map.1 hx
    exact (h.kdom _ _ (h.ord0 t ht).1).1)
  simpa using this
end
end Go.Proofs.Yteceephenfmdoaa
