/-
  The bytes of a list of scraps, one by one: a joined list is known by its bytes; pieces are pieces of the bytes. No program in sight.
-/
import Derived.Test.YtdpjblepcpjomaaSPlain
namespace Go.Proofs.Ytdpjblepcpjomaa.Sc
open Go.RowKit
def sb (s : S) : List (Int × Int) := (List.range s.len.toNat).map fun (i : Nat) => (s.src, s.at_ + (i : Int))
def bts (l : List S) : List (Int × Int) := l.flatMap sb
theorem sb_length (s : S) : (sb s).length = s.len.toNat := by simp [sb]
theorem bts_append (l m : List S) : bts (l ++ m) = bts l ++ bts m := by simp [bts]
theorem bts_cons (s : S) (l : List S) : bts (s :: l) = sb s ++ bts l := rfl
theorem bts_one (s : S) : bts [s] = sb s := by simp [bts]
theorem bts_length {l : List S} (h : Ok l) : ((bts l).length : Int) = tot l := by
  induction l with
  | nil => rfl
  | cons a l ih =>
    have ha := h a (by simp)
    have h2 := ih h.tail
    unfold okS at ha
    rw [bts_cons, List.length_append, sb_length, tot]
    omega
theorem sb_add (src at_ a b : Int) (ha : 0 ≤ a) (hb : 0 ≤ b) : sb ⟨src, at_, a + b⟩ = sb ⟨src, at_, a⟩ ++ sb ⟨src, at_ + a, b⟩ := by
  obtain ⟨a, rfl⟩ := Int.eq_ofNat_of_zero_le ha
  obtain ⟨b, rfl⟩ := Int.eq_ofNat_of_zero_le hb
  have e : ((a : Int) + (b : Int)).toNat = a + b := by omega
  simp only [sb, e, Int.toNat_natCast]
  rw [List.range_add, List.map_append, List.map_map]
  congr 1
  apply List.map_congr_left
  intro i _
  simp
  omega
theorem bts_glue {l : List S} {s : S} (h : Ok l) (hs : okS s) : bts (glue l s) = bts l ++ sb s := by
  rcases snoc_cases l with rfl | ⟨L, t, rfl⟩
  · simp [glue_nil, bts]
  · have ht := h t (by simp)
    unfold okS at ht hs
    by_cases hc : t.src = s.src ∧ t.at_ + t.len = s.at_
    · rw [glue_yes L t s hc, bts_append, bts_append, List.append_assoc, bts_one, bts_one]
      congr 1
      have h1 := sb_add t.src t.at_ t.len s.len (by omega) (by omega)
      rw [h1, hc.2]
      congr 1
      rw [hc.1]
    · rw [glue_no L t s hc, bts_append _ [s], bts_one]
theorem bts_foldl (l : List S) : ∀ out, Ok out → Ok l → bts (l.foldl glue out) = bts out ++ bts l := by
  induction l with
  | nil => intro out _ _; simp [bts]
  | cons a l ih =>
    intro out h h'
    have ha := h' a (by simp)
    rw [List.foldl_cons, ih _ (glue_ok h ha) h'.tail, bts_glue h ha, bts_cons, List.append_assoc]
theorem ok_nil : Ok [] := fun s hs => by simp at hs
theorem bts_joinL {l : List S} (h : Ok l) : bts (joinL l) = bts l := by
  have := bts_foldl l [] ok_nil h
  simpa [joinL, bts] using this
/-- One byte more. -/
def glue1 (out : List S) (x : Int × Int) : List S := glue out ⟨x.1, x.2, 1⟩
theorem glue_glue (out : List S) (src at_ a b : Int) : glue (glue out ⟨src, at_, a⟩) ⟨src, at_ + a, b⟩ = glue out ⟨src, at_, a + b⟩ := by
  rcases snoc_cases out with rfl | ⟨L, t, rfl⟩
  · rw [glue_nil]
    exact glue_yes [] _ _ ⟨rfl, rfl⟩
  · by_cases hc : t.src = src ∧ t.at_ + t.len = at_
    · have hc' : t.src = (⟨src, at_, a + b⟩ : S).src ∧ t.at_ + t.len = (⟨src, at_, a + b⟩ : S).at_ := hc
      rw [glue_yes L t ⟨src, at_, a + b⟩ hc', glue_yes L t ⟨src, at_, a⟩ hc]
      rw [glue_yes L _ _ ⟨hc.1, by simp only; omega⟩]
      congr 2
      simp only [S.mk.injEq, true_and]
      omega
    · rw [glue_no L t ⟨src, at_, a + b⟩ hc, glue_no L t ⟨src, at_, a⟩ hc]
      rw [glue_yes (L ++ [t]) ⟨src, at_, a⟩ ⟨src, at_ + a, b⟩ ⟨rfl, rfl⟩]
theorem glue_bytes (out : List S) (src at_ : Int) (n : Nat) : glue out ⟨src, at_, ((n : Int) + 1)⟩ = (sb ⟨src, at_, (n : Int) + 1⟩).foldl glue1 out := by
  induction n with
  | zero => simp [sb, glue1]
  | succ n ih =>
    have h1 := sb_add src at_ ((n : Int) + 1) 1 (by omega) (by omega)
    have e : (((n + 1 : Nat) : Int) + 1) = (n : Int) + 1 + 1 := by omega
    rw [e, h1, List.foldl_append, ← ih]
    simp only [sb]
    have h2 := glue_glue out src at_ ((n : Int) + 1) 1
    rw [← h2]
    simp [glue1]
theorem glue_sb (out : List S) (s : S) (h : 1 ≤ s.len) : glue out s = (sb s).foldl glue1 out := by
  obtain ⟨src, at_, len⟩ := s
  simp only at h
  obtain ⟨n, hn⟩ := Int.eq_ofNat_of_zero_le (show 0 ≤ len - 1 by omega)
  have e : len = (n : Int) + 1 := by omega
  subst e
  exact glue_bytes out src at_ n
theorem foldl_bts (l : List S) (h : Ok l) : ∀ out, l.foldl glue out = (bts l).foldl glue1 out := by
  induction l with
  | nil => intro out; rfl
  | cons a l ih =>
    intro out
    have ha := h a (by simp)
    unfold okS at ha
    rw [List.foldl_cons, ih h.tail, glue_sb _ _ (by omega), bts_cons, List.foldl_append]
/-- A JOINED LIST IS KNOWN BY ITS BYTES. -/
theorem joinL_congr {l m : List S} (hl : Ok l) (hm : Ok m) (h : bts l = bts m) : joinL l = joinL m := by
  unfold joinL
  rw [foldl_bts l hl, foldl_bts m hm, h]
theorem joinL_joinL {l : List S} (h : Ok l) : joinL (joinL l) = joinL l := joinL_congr (joinL_ok h) h (bts_joinL h)
/-- No two scraps go on in one another. -/
def Sep (l : List S) : Prop := ∀ k s t, l[k]? = some s → l[k+1]? = some t → ¬ (s.src = t.src ∧ s.at_ + s.len = t.at_)
theorem sep_snoc {L : List S} {t : S} (h : Sep (L ++ [t])) : Sep L := by
  intro k s u hs hu
  have h1 := (List.getElem?_eq_some_iff.1 hs).1
  have h2 := (List.getElem?_eq_some_iff.1 hu).1
  exact h k s u (by rw [List.getElem?_append_left h1]; exact hs) (by rw [List.getElem?_append_left h2]; exact hu)
theorem sep_glue {l : List S} {s : S} (h : Sep l) : Sep (glue l s) := by
  rcases snoc_cases l with rfl | ⟨L, t, rfl⟩
  · intro k a b _ hb
    simp [glue_nil] at hb
  · by_cases hc : t.src = s.src ∧ t.at_ + t.len = s.at_
    · rw [glue_yes L t s hc]
      intro k a b ha hb
      by_cases hk : k + 1 < L.length
      · rw [List.getElem?_append_left (by omega)] at ha
        rw [List.getElem?_append_left hk] at hb
        exact sep_snoc h k a b ha hb
      · have h2 := (List.getElem?_eq_some_iff.1 hb).1
        simp at h2
        have e : L.length = k + 1 := by omega
        rw [List.getElem?_append_left (by omega)] at ha
        rw [List.getElem?_append_right (by omega), ← e, Nat.sub_self] at hb
        simp at hb
        subst hb
        exact h k a t (by rw [List.getElem?_append_left (by omega)]; exact ha) (by rw [List.getElem?_append_right (by omega), ← e, Nat.sub_self]; rfl)
    · rw [glue_no L t s hc]
      intro k a b ha hb
      by_cases hk : k + 1 < (L ++ [t]).length
      · rw [List.getElem?_append_left (by omega)] at ha
        rw [List.getElem?_append_left hk] at hb
        exact h k a b ha hb
      · have h2 := (List.getElem?_eq_some_iff.1 hb).1
        simp at h2 hk
        have e : L.length = k := by omega
        subst e
        rw [List.getElem?_append_left (by simp), List.getElem?_append_right (by omega), Nat.sub_self] at ha
        rw [List.getElem?_append_right (by simp)] at hb
        simp at ha hb
        subst ha; subst hb
        exact hc
theorem sep_joinL (l : List S) : Sep (joinL l) := by
  suffices h : ∀ (l out : List S), Sep out → Sep (l.foldl glue out) from h l [] (fun k s t hs _ => by simp at hs)
  intro l
  induction l with
  | nil => intro out h; exact h
  | cons a l ih => intro out h; exact ih _ (sep_glue h)
end Go.Proofs.Ytdpjblepcpjomaa.Sc
