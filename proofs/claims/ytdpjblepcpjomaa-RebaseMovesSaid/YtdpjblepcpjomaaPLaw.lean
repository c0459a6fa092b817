/-
  The plain laws of the statements: a target without a byte twice is moved to one scrap; what was moved is moved to itself; the texts stay. No program in sight.
-/
import Derived.Test.YtdpjblepcpjomaaPMove
import Derived.Test.YtdpjblepcpjomaaSPlc
namespace Go.Proofs.Ytdpjblepcpjomaa.Rb
open Go.RowKit
theorem ok_app {O : List S} {x : S} (h : Sc.Ok O) (hx : Sc.okS x) : Sc.Ok (O ++ [x]) := h.append fun y hy => by simp at hy; subst hy; exact hx
theorem MvTo.joined {TB : List B} {RS : List R} {a : Int} {bs : List B} {O : List S} (h : MvTo TB RS a bs O) (hO : Sc.Ok O) : MvTo TB RS a bs (Sc.joinL O) := by
  unfold MvTo at *
  rw [Sc.bts_joinL hO]; exact h
theorem mv_ok {T : List S} {RS : List R} {a : Int} {x z : B} (hT : Sc.MayP T) (hS : Right RS) (a0 : 0 ≤ a) (a1 : a + tot RS ≤ 1099511627776) (hx0 : 0 ≤ x.2) (hx1 : x.2 + 1 ≤ 1099511627776) (h : mv (Sc.bts T) RS a x = some z) : Sc.okS ⟨z.1, z.2, 1⟩ := by
  unfold Sc.okS
  simp only
  cases hp : pos (Sc.bts T) x with
  | some p =>
    rw [mv_some hp] at h
    cases h
    have h1 := pos_lt hp
    have h2 := Sc.bts_length hT.1
    have := hT.2
    simp only; omega
  | none =>
    rw [mv_none hp] at h
    split at h
    · rename_i hc
      cases h
      omega
    · by_cases hi : In RS x.2
      · obtain ⟨r, hr, h1, h2⟩ := hi
        obtain ⟨k, hk⟩ := List.getElem?_of_mem hr
        rw [below_at hS hk h1 h2] at h
        cases h
        have := tot_take_le hS hk
        simp only; omega
      · rw [below_none hi] at h; cases h
theorem mv_src {TB : List B} {RS : List R} {a : Int} {x z : B} (h : mv TB RS a x = some z) : (z.1 = 0 ∧ 0 ≤ z.2 ∧ z.2 < TB.length) ∨ z.1 = 1 := by
  cases hp : pos TB x with
  | some p =>
    rw [mv_some hp] at h
    cases h
    have := pos_lt hp
    exact .inl ⟨rfl, by simp only; omega, by simp only; omega⟩
  | none =>
    rw [mv_none hp] at h
    split at h
    · rename_i hc
      cases h; exact .inr hc
    · cases hb : below RS x.2 with
      | none => rw [hb] at h; cases h
      | some d => rw [hb] at h; cases h; exact .inr rfl
/-- Bytes of files. -/
def Bd (bs : List B) : Prop := ∀ x ∈ bs, 0 ≤ x.2 ∧ x.2 + 1 ≤ 1099511627776
theorem bd_bts {l : List S} (h : Sc.Ok l) : Bd (Sc.bts l) := by
  rintro ⟨a, y⟩ hx
  obtain ⟨s, hs, _, h1, h2⟩ := (mem_bts _ _ _).1 hx
  have := h s hs
  unfold Sc.okS at this
  simp only; omega
section
variable {T : List S} {RS : List R} {a : Int} {bs : List B}
theorem moved_ok0 (hT : Sc.MayP T) (hS : Right RS) (a0 : 0 ≤ a) (a1 : a + tot RS ≤ 1099511627776) (hb : Bd bs) : Sc.Ok ((bs.filterMap (mv (Sc.bts T) RS a)).map byteS) := by
  intro t ht
  obtain ⟨z, hz, rfl⟩ := List.mem_map.1 ht
  obtain ⟨x, hx, h⟩ := List.mem_filterMap.1 hz
  exact mv_ok hT hS a0 a1 (hb x hx).1 (hb x hx).2 h
theorem moved_ok (hT : Sc.MayP T) (hS : Right RS) (a0 : 0 ≤ a) (a1 : a + tot RS ≤ 1099511627776) (hb : Bd bs) : Sc.Ok (moveL (Sc.bts T) RS a bs) := Sc.joinL_ok (moved_ok0 hT hS a0 a1 hb)
theorem moved_bts (hT : Sc.MayP T) (hS : Right RS) (a0 : 0 ≤ a) (a1 : a + tot RS ≤ 1099511627776) (hb : Bd bs) : Sc.bts (moveL (Sc.bts T) RS a bs) = bs.filterMap (mv (Sc.bts T) RS a) := by
  unfold moveL
  rw [Sc.bts_joinL (moved_ok0 hT hS a0 a1 hb), bts_byteS]
theorem moved_may (hT : Sc.MayP T) (hS : Right RS) (a0 : 0 ≤ a) (a1 : a + tot RS ≤ 1099511627776) (hb : Bd bs) (hl : bs.length ≤ 1099511627776) :
    (∀ s ∈ moveL (Sc.bts T) RS a bs, s.src ≠ 2) ∧ Sc.MayP (moveL (Sc.bts T) RS a bs) := by
  have hO := moved_ok hT hS a0 a1 hb
  refine ⟨fun s hs => ?_, hO, ?_⟩
  · have h1 := hO s hs
    unfold Sc.okS at h1
    have h2 : (s.src, s.at_) ∈ Sc.bts (moveL (Sc.bts T) RS a bs) := (mem_bts _ _ _).2 ⟨s, hs, rfl, by omega, by omega⟩
    rw [moved_bts hT hS a0 a1 hb] at h2
    obtain ⟨x, _, hx⟩ := List.mem_filterMap.1 h2
    have := mv_src hx
    simp only at this; omega
  · rw [← Sc.bts_length hO, moved_bts hT hS a0 a1 hb]
    have := List.length_filterMap_le (mv (Sc.bts T) RS a) bs
    omega
end
/-! ### Twice -/
def ownS (n : Int) : List S := if 0 < n then [⟨0, 0, n⟩] else []
theorem ownS_may {n : Int} (h : n ≤ 1099511627776) : (∀ s ∈ ownS n, s.src ≠ 2) ∧ Sc.MayP (ownS n) := by
  unfold ownS
  split
  · refine ⟨fun s hs => by simp at hs; subst hs; exact (by decide : (0:Int) ≠ 2), fun s hs => ?_, ?_⟩
    · simp at hs; subst hs; unfold Sc.okS; simp only; omega
    · simp [Sc.tot]; omega
  · exact ⟨fun s hs => by simp at hs, fun s hs => by simp at hs, by simp [Sc.tot]⟩
theorem ownS_mem {n : Int} (b y : Int) : (b, y) ∈ Sc.bts (ownS n) ↔ b = 0 ∧ 0 ≤ y ∧ y < n := by
  rw [mem_bts]
  unfold ownS
  split
  · simp only [List.mem_singleton, exists_eq_left]
    constructor
    · rintro ⟨h1, h2, h3⟩; exact ⟨h1.symm, h2, by omega⟩
    · rintro ⟨h1, h2, h3⟩; exact ⟨h1.symm, h2, by omega⟩
  · constructor
    · rintro ⟨s, hs, _⟩; simp at hs
    · rintro ⟨_, h2, h3⟩; omega
theorem ownS_mv {n : Int} {z : B} (h : (z.1 = 0 ∧ 0 ≤ z.2 ∧ z.2 < n) ∨ z.1 = 1) : mv (Sc.bts (ownS n)) [] 0 z = some z := by
  obtain ⟨b, y⟩ := z
  simp only at h
  by_cases hb : b = 1
  · subst hb
    rw [mv_none (pos_none.2 fun hm => by have := (ownS_mem _ _).1 hm; omega), if_pos rfl]
  · have h := h.resolve_right hb
    obtain ⟨rfl, h1, h2⟩ := h
    have hp : pos (Sc.bts (ownS n)) (0, y) = some y.toNat := by
      unfold ownS
      rw [if_pos (by omega), Sc.bts_one]
      have := pos_sb ⟨0, 0, n⟩ y h1 (by simp only; omega)
      simpa using this
    rw [mv_some hp]
    congr 2; omega
theorem twice_to {n : Int} {m : List S} (h : ∀ z ∈ Sc.bts m, (z.1 = 0 ∧ 0 ≤ z.2 ∧ z.2 < n) ∨ z.1 = 1) : MvTo (Sc.bts (ownS n)) [] 0 (Sc.bts m) m :=
  List.map_congr_left fun z hz => ownS_mv (h z hz)
theorem twice_rescue {n : Int} {m : List S} (hm : Sc.Ok m) (h : ∀ z ∈ Sc.bts m, (z.1 = 0 ∧ 0 ≤ z.2 ∧ z.2 < n) ∨ z.1 = 1) : rescueR (ownS n) [m] = [] := by
  refine (rescue_is (T := ownS n) (ls := [m]) (fun l hl => by simp at hl; subst hl; exact hm)).uniq (p' := fun _ => False) ⟨trivial, fun x => ⟨fun h => absurd h (in_nil x), False.elim⟩⟩ fun y => ⟨fun h' => ?_, False.elim⟩
  obtain ⟨h1, h2⟩ := h'
  simp only [List.flatten_cons, List.flatten_nil, List.append_nil] at h1
  have h3 := h _ h1
  simp only at h3
  exact h2 ((ownS_mem _ _).2 ⟨rfl, by omega⟩)
/-! ### Whole -/
def Apart (l : List S) : Prop := ∀ (i k : Nat) (s t : S), l[i]? = some s → l[k]? = some t → k < i → ¬ (s.src = t.src ∧ s.at_ < t.at_ + t.len ∧ t.at_ < s.at_ + s.len)
theorem whole_to {l : List S} (hl : Sc.Ok l) (hA : Apart l) (RS : List R) (a : Int) : ∀ k, 0 < k → k ≤ l.length → MvTo (Sc.bts l) RS a (Sc.bts (l.take k)) [⟨0, 0, Sc.tot (l.take k)⟩] := by
  intro k
  induction k with
  | zero => intro h; omega
  | succ k ih =>
    intro _ hk
    obtain ⟨s, hs⟩ := Sc.get_some l k (by omega)
    have ho := hl.at_ hs
    unfold Sc.okS at ho
    have ht := Sc.tot_nonneg _ (hl.take k)
    have hsb : (Sc.sb s).map (mv (Sc.bts l) RS a) = (Sc.sb ⟨0, Sc.tot (l.take k), s.len⟩).map some := by
      simp only [Sc.sb, List.map_map]
      apply List.map_congr_left
      intro i hi
      rw [List.mem_range] at hi
      have hn : (s.src, s.at_ + (i : Int)) ∉ Sc.bts (l.take k) := by
        intro hm
        obtain ⟨t, ht, e, h1, h2⟩ := (mem_bts _ _ _).1 hm
        obtain ⟨j, hj⟩ := List.getElem?_of_mem ht
        rw [List.getElem?_take] at hj
        split at hj
        · exact hA k j s t hs hj (by omega) ⟨e.symm, by omega, by omega⟩
        · cases hj
      show mv (Sc.bts l) RS a (s.src, s.at_ + (i : Int)) = some (0, Sc.tot (l.take k) + (i : Int))
      rw [mv_some (pos_at hl hs hn (by omega) (by omega))]
      congr 2; omega
    have hst := Sc.tot_take_succ l k s hs
    by_cases h0 : k = 0
    · subst h0
      unfold MvTo
      rw [bts_take l 0 s hs, hst]
      simp only [List.take_zero, Sc.tot, Int.zero_add, bts_nil, List.nil_append, Sc.bts_one] at hsb ⊢
      exact hsb
    · have ih := ih (by omega) (by omega)
      unfold MvTo at ih ⊢
      rw [bts_take l k s hs, List.map_append, ih, hsb, hst, Sc.bts_one, Sc.bts_one, ← List.map_append, Sc.sb_add 0 0 _ _ ht (by omega), Int.zero_add]
theorem whole_move {l : List S} (hl : Sc.MayP l) (hA : Apart l) (RS : List R) (a : Int) (h0 : l ≠ []) : moveL (Sc.bts l) RS a (Sc.bts l) = [⟨0, 0, Sc.tot l⟩] ∧ ∀ x ∈ Sc.bts l, mv (Sc.bts l) RS a x ≠ none := by
  have hlen : 0 < l.length := by cases l with
    | nil => exact absurd rfl h0
    | cons => simp
  have h1 := whole_to hl.1 hA RS a l.length hlen (Nat.le_refl _)
  rw [List.take_length] at h1
  refine ⟨?_, h1.all⟩
  rw [← h1.join]
  · rfl
  · intro s hs
    simp at hs; subst hs
    have := Sc.len_le_tot l hl.1
    have := hl.2
    unfold Sc.okS; simp only; omega
theorem whole_rescue {l : List S} (hl : Sc.Ok l) : rescueR l [l] = [] := by
  refine (rescue_is (T := l) (ls := [l]) (fun m hm => by simp at hm; subst hm; exact hl)).uniq (p' := fun _ => False) ⟨trivial, fun x => ⟨fun h => absurd h (in_nil x), False.elim⟩⟩ fun y => ⟨fun h' => ?_, False.elim⟩
  obtain ⟨h1, h2⟩ := h'
  simp only [List.flatten_cons, List.flatten_nil, List.append_nil] at h1
  exact h2 h1
/-! ### Texts -/
def cutB (orig : List Int) (r : R) : List Int := (orig.drop r.1.toNat).take (r.2 - r.1).toNat
def resB (orig : List Int) (RS : List R) : List Int := RS.flatMap (cutB orig)
def Bds (N : Nat) (RS : List R) : Prop := ∀ r ∈ RS, 0 ≤ r.1 ∧ r.1 < r.2 ∧ r.2 ≤ N
theorem cutB_len {orig : List Int} {r : R} (h : 0 ≤ r.1 ∧ r.1 < r.2 ∧ r.2 ≤ (orig.length : Int)) : ((cutB orig r).length : Int) = r.2 - r.1 := by
  simp only [cutB, List.length_take, List.length_drop]; omega
theorem resB_len {orig : List Int} {RS : List R} (h : Bds orig.length RS) : ((resB orig RS).length : Int) = tot RS := by
  induction RS with
  | nil => rfl
  | cons r l ih =>
    have h1 := cutB_len (h r (by simp))
    have h2 := ih (fun q hq => h q (by simp [hq]))
    simp only [resB, List.flatMap_cons, List.length_append, tot] at h2 ⊢
    omega
theorem below_get {orig : List Int} {RS : List R} (h : Bds orig.length RS) {y d : Int} (hd : below RS y = some d) : 0 ≤ d ∧ d < tot RS ∧ (resB orig RS).getD d.toNat 0 = orig.getD y.toNat 0 := by
  induction RS generalizing d with
  | nil => cases hd
  | cons r l ih =>
    have hr := h r (by simp)
    have h1 := cutB_len hr
    have hl : Bds orig.length l := fun q hq => h q (by simp [hq])
    have h2 := resB_len hl
    have h3 : resB orig (r :: l) = cutB orig r ++ resB orig l := by simp [resB]
    rw [below] at hd
    split at hd
    · rename_i hc
      cases hd
      refine ⟨by omega, by simp only [tot]; omega, ?_⟩
      rw [h3, List.getD_eq_getElem?_getD, List.getD_eq_getElem?_getD, List.getElem?_append_left (by omega)]
      simp only [cutB, List.getElem?_take, List.getElem?_drop]
      rw [if_pos (by omega)]
      congr 2; omega
    · cases hb : below l y with
      | none => rw [hb] at hd; cases hd
      | some d' =>
        rw [hb, Option.map_some, Option.some.injEq] at hd
        subst hd
        obtain ⟨g1, g2, g3⟩ := ih hl hb
        refine ⟨by omega, by simp only [tot]; omega, ?_⟩
        rw [h3, ← g3, List.getD_eq_getElem?_getD, List.getD_eq_getElem?_getD, List.getElem?_append_right (by omega)]
        congr 2; omega
theorem below_some {RS : List R} {y : Int} (h : In RS y) : ∃ d, below RS y = some d := by
  induction RS with
  | nil => exact absurd h (in_nil y)
  | cons r l ih =>
    rw [below]
    split
    · exact ⟨_, rfl⟩
    · rename_i hc
      rw [in_cons] at h
      obtain ⟨d, hd⟩ := ih (h.resolve_left hc)
      rw [hd]; exact ⟨_, rfl⟩
/-- A byte that is there. -/
def Ins (orig tl : List Int) (x : B) : Prop := 0 ≤ x.2 ∧ ((x.1 = 0 ∧ x.2 < orig.length) ∨ (x.1 = 1 ∧ x.2 < tl.length))
theorem byte_text {orig tl : List Int} {T : List S} {RS : List R} (hT : Sc.MayP T) (hH : Sc.Hass [orig, tl] T) (hB : Bds orig.length RS) {x z : B} (hx : Ins orig tl x) (h : mv (Sc.bts T) RS tl.length x = some z) :
    Ins (Sc.textB [orig, tl] T) (tl ++ resB orig RS) z ∧ Sc.look [Sc.textB [orig, tl] T, tl ++ resB orig RS] z = Sc.look [orig, tl] x := by
  have hL := Sc.textB_length hH hT.1
  have hR := resB_len hB
  have hT2 := Sc.bts_length hT.1
  cases hp : pos (Sc.bts T) x with
  | some p =>
    rw [mv_some hp] at h
    cases h
    have h1 := pos_lt hp
    refine ⟨⟨by simp only; omega, .inl ⟨rfl, by simp only; omega⟩⟩, ?_⟩
    have h2 := pos_get hp
    show (Sc.textB [orig, tl] T).getD p 0 = _
    rw [Sc.textB_look hH hT.1, List.getD_eq_getElem?_getD, List.getElem?_map, h2]
    rfl
  | none =>
    rw [mv_none hp] at h
    split at h
    · rename_i hc
      cases h
      obtain ⟨h0, h1⟩ := hx
      obtain ⟨a, y⟩ := x
      simp only at hc h0 h1
      subst hc
      have h1 : y < tl.length := by omega
      refine ⟨⟨h0, .inr ⟨rfl, by simp only [List.length_append]; omega⟩⟩, ?_⟩
      show (tl ++ resB orig RS).getD y.toNat 0 = tl.getD y.toNat 0
      rw [List.getD_eq_getElem?_getD, List.getD_eq_getElem?_getD, List.getElem?_append_left (by omega)]
    · rename_i hc
      cases hb : below RS x.2 with
      | none => rw [hb] at h; cases h
      | some d =>
        rw [hb] at h
        cases h
        obtain ⟨g1, g2, g3⟩ := below_get hB hb
        obtain ⟨a, y⟩ := x
        obtain ⟨h0, h1⟩ := hx
        simp only at hc h0 h1 g3
        have ha : a = 0 := by omega
        subst ha
        refine ⟨⟨by simp only; omega, .inr ⟨rfl, by simp only [List.length_append]; omega⟩⟩, ?_⟩
        show (tl ++ resB orig RS).getD ((tl.length : Int) + d).toNat 0 = orig.getD y.toNat 0
        rw [← g3, List.getD_eq_getElem?_getD, List.getD_eq_getElem?_getD, List.getElem?_append_right (by omega)]
        congr 2; omega
theorem ins_has {orig tl : List Int} {z : B} (h : Ins orig tl z) : Sc.Has [orig, tl] (byteS z) := by
  obtain ⟨b, y⟩ := z
  obtain ⟨h0, h1⟩ := h
  simp only at h0 h1
  unfold Sc.Has Sc.srcOf byteS
  rcases h1 with ⟨rfl, h1⟩ | ⟨rfl, h1⟩
  · simp; omega
  · simp; omega
theorem filterMap_look {α β γ : Type} {f : α → Option β} {g : β → γ} {h : α → γ} {l : List α} (hl : ∀ x ∈ l, ∃ z, f x = some z ∧ g z = h x) : (l.filterMap f).map g = l.map h := by
  induction l with
  | nil => rfl
  | cons x l ih =>
    obtain ⟨z, h1, h2⟩ := hl x (by simp)
    rw [List.filterMap_cons, h1, List.map_cons, List.map_cons, ih (fun y hy => hl y (by simp [hy])), h2]
/-- THE TEXTS STAY. -/
theorem texts_stay {orig tl : List Int} {T l : List S} {RS : List R} (hT : Sc.MayP T) (hH : Sc.Hass [orig, tl] T) (hB : Bds orig.length RS) (hS : Right RS) (a1 : (tl.length : Int) + tot RS ≤ 1099511627776)
    (hl : Sc.Ok l) (hHl : Sc.Hass [orig, tl] l) (hI : ∀ x ∈ Sc.bts l, Ins orig tl x) (hm : ∀ x ∈ Sc.bts l, mv (Sc.bts T) RS tl.length x ≠ none) :
    Sc.Hass [Sc.textB [orig, tl] T, tl ++ resB orig RS] (moveL (Sc.bts T) RS tl.length (Sc.bts l)) ∧
      Sc.textB [Sc.textB [orig, tl] T, tl ++ resB orig RS] (moveL (Sc.bts T) RS tl.length (Sc.bts l)) = Sc.textB [orig, tl] l := by
  have hb := bd_bts hl
  have h0 := moved_ok0 hT hS (Int.natCast_nonneg _) a1 hb
  have h1 := moved_ok hT hS (Int.natCast_nonneg _) a1 hb
  have hh : Sc.Hass [Sc.textB [orig, tl] T, tl ++ resB orig RS] (moveL (Sc.bts T) RS tl.length (Sc.bts l)) := by
    refine Sc.joinL_has (fun s hs => ?_) h0
    obtain ⟨z, hz, rfl⟩ := List.mem_map.1 hs
    obtain ⟨x, hx, h⟩ := List.mem_filterMap.1 hz
    exact ins_has (byte_text hT hH hB (hI x hx) h).1
  refine ⟨hh, ?_⟩
  rw [Sc.textB_look hh h1, moved_bts hT hS (Int.natCast_nonneg _) a1 hb, Sc.textB_look hHl hl]
  refine filterMap_look fun x hx => ?_
  cases hz : mv (Sc.bts T) RS tl.length x with
  | none => exact absurd hz (hm x hx)
  | some z => exact ⟨z, rfl, (byte_text hT hH hB (hI x hx) hz).2⟩
end Go.Proofs.Ytdpjblepcpjomaa.Rb
