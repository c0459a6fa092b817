/-
  SC: texts of one kind, one behind the other.
-/
import Derived.Test.YtblibmalommdkaaGreatSB
import Derived.Test.YtblibmalommdkaaGreatSA
/-
  What scrap.Piece answers, for every list and every two numbers.
-/
namespace Go.Proofs.YtblibmalommdkaaGreat.Sc
open Go.RowKit
theorem partL_ok {l : List S} (h : Ok l) (f t : Int) : Ok (partL l f t) := by
  induction l generalizing f t with
  | nil => intro s hs; simp [partL] at hs
  | cons a l ih =>
    refine Ok.append ?_ (ih h.tail _ _)
    have ha := h a (by simp)
    by_cases hc : f < a.len ∧ 0 < t ∧ f < t
    · rw [bit_yes hc rfl rfl]
      intro s hs
      simp only [List.mem_singleton] at hs
      subst hs
      unfold okS at *
      simp only
      omega
    · rw [bit_no hc]; intro s hs; simp at hs
theorem partL_tot {l : List S} (h : Ok l) (f t : Int) (hf : 0 ≤ f) (ht : f ≤ t) : tot (partL l f t) ≤ t - f := by
  suffices h1 : ∀ (l : List S) (f t : Int), Ok l → tot (partL l f t) ≤ max t 0 - max f 0 ∨ (t ≤ f ∧ partL l f t = []) by
    rcases h1 l f t h with h2 | ⟨_, h2⟩
    · omega
    · rw [h2]; simp only [tot]; omega
  intro l
  induction l with
  | nil => intro f t _; by_cases h : t ≤ f
           · exact .inr ⟨h, rfl⟩
           · left; simp only [partL, tot]; omega
  | cons a l ih =>
    intro f t h
    have ha := h a (by simp)
    have hl := ih (f - a.len) (t - a.len) h.tail
    unfold okS at ha
    by_cases hc : f < a.len ∧ 0 < t ∧ f < t
    · simp only [partL, bit_yes hc rfl rfl, List.singleton_append, tot]
      left
      rcases hl with h2 | ⟨h3, h2⟩
      · omega
      · omega
    · simp only [partL, bit_no hc, List.nil_append]
      rcases hl with h2 | ⟨h3, h2⟩
      · by_cases h4 : t ≤ f
        · right
          refine ⟨h4, ?_⟩
          have := tot_nonneg _ (partL_ok h.tail (f - a.len) (t - a.len))
          have h5 := len_le_tot _ (partL_ok h.tail (f - a.len) (t - a.len))
          exact List.eq_nil_of_length_eq_zero (by omega)
        · left; omega
      · exact .inr ⟨by omega, h2⟩
theorem partL_may {l : List S} (h : MayP l) (f t : Int) (hf : 0 ≤ f) (ht : f ≤ t) (ht1 : t ≤ 1099511627776) : MayP (partL l f t) :=
  ⟨partL_ok h.1 f t, by have := partL_tot h.1 f t hf ht; omega⟩

open Classical in
noncomputable def pieceE (l : List S) (at_ n : Int) : Int := if ¬ MayP l then 1 else if at_ < 0 ∨ n < 0 ∨ tot l < at_ ∨ tot l - at_ < n then 2 else 0
open Classical in
noncomputable def pieceL (l : List S) (at_ n : Int) : List S := if pieceE l at_ n = 0 then joinL (partL l at_ (at_ + n)) else []

end Go.Proofs.YtblibmalommdkaaGreat.Sc

/-
  What scrap.Cut and scrap.Splice answer, for every list and all numbers.
-/
namespace Go.Proofs.YtblibmalommdkaaGreat.Sc
open Go.RowKit
open Classical in
noncomputable def cutE (l : List S) (at_ : Int) : Int := if ¬ MayP l then 1 else if at_ < 0 ∨ tot l < at_ then 2 else 0
open Classical in
noncomputable def cutA (l : List S) (at_ : Int) : List S := if cutE l at_ = 0 then joinL (partL l 0 at_) else []
open Classical in
noncomputable def cutB (l : List S) (at_ : Int) : List S := if cutE l at_ = 0 then joinL (partL l at_ (tot l)) else []
open Classical in
noncomputable def spliceE (l : List S) (at_ n : Int) (put : List S) : Int := if ¬ (MayP l ∧ MayP put) then 1 else if at_ < 0 ∨ n < 0 ∨ tot l < at_ ∨ tot l - at_ < n then 2 else if 1099511627776 < tot l - n + tot put then 10 else 0
open Classical in
noncomputable def spliceL (l : List S) (at_ n : Int) (put : List S) : List S := if spliceE l at_ n put = 0 then joinL (partL l 0 at_ ++ (put ++ partL l (at_ + n) (tot l))) else []
end Go.Proofs.YtblibmalommdkaaGreat.Sc

/-
  The bytes of a piece are the piece of the bytes; what cutting, splicing and joining give, by their bytes. No program in sight.
-/
namespace Go.Proofs.YtblibmalommdkaaGreat.Sc
open Go.RowKit
theorem sb_cut (s : S) (a b : Int) (ha : 0 ≤ a) (hab : a < b) (hb : b ≤ s.len) : sb ⟨s.src, s.at_ + a, b - a⟩ = ((sb s).take b.toNat).drop a.toNat := by
  obtain ⟨a, rfl⟩ := Int.eq_ofNat_of_zero_le ha
  obtain ⟨b, rfl⟩ := Int.eq_ofNat_of_zero_le (show 0 ≤ b by omega)
  apply List.ext_getElem
  · simp [sb]; omega
  · intro i h1 h2
    simp [sb]
    omega
theorem bts_bit (s : S) (f t : Int) (_h : 1 ≤ s.len) : bts (bit s f t) = ((sb s).take t.toNat).drop f.toNat := by
  by_cases hc : f < s.len ∧ 0 < t ∧ f < t
  · rw [bit_yes hc rfl rfl, bts_one]
    have h1 : (if f < 0 then (0 : Int) else f) = max f 0 := by omega
    have h2 : (if s.len < t then s.len else t) = min t s.len := by omega
    rw [h1, h2, sb_cut s (max f 0) (min t s.len) (by omega) (by omega) (by omega)]
    have e1 : (max f 0).toNat = f.toNat := by omega
    rw [e1]
    have e2 : (sb s).take (min t s.len).toNat = (sb s).take t.toNat := by
      by_cases ht : t ≤ s.len
      · rw [Int.min_eq_left ht]
      · rw [List.take_of_length_le (i := (min t s.len).toNat) (by rw [sb_length]; omega), List.take_of_length_le (by rw [sb_length]; omega)]
    rw [e2]
  · rw [bit_no hc]
    symm
    apply List.drop_eq_nil_of_le
    rw [List.length_take, sb_length]
    omega
theorem bts_partL {l : List S} (h : Ok l) (f t : Int) : bts (partL l f t) = ((bts l).take t.toNat).drop f.toNat := by
  induction l generalizing f t with
  | nil => simp [partL, bts]
  | cons a l ih =>
    have ha := h a (by simp)
    unfold okS at ha
    rw [partL, bts_append, bts_bit a f t (by omega), ih h.tail, bts_cons, List.take_append, List.drop_append, List.length_take, sb_length]
    have e1 : (f - a.len).toNat = f.toNat - a.len.toNat := by omega
    have e2 : (t - a.len).toNat = t.toNat - a.len.toNat := by omega
    rw [e1, e2]
    congr 1
    by_cases ht : a.len.toNat ≤ t.toNat
    · rw [Nat.min_eq_right ht]
    · have e3 : t.toNat - a.len.toNat = 0 := by omega
      rw [e3]; simp
theorem tot_partL {l : List S} (h : Ok l) (f t : Int) (hf : 0 ≤ f) (hft : f ≤ t) (ht : t ≤ tot l) : tot (partL l f t) = t - f := by
  rw [← bts_length (partL_ok h f t), bts_partL h, List.length_drop, List.length_take]
  have := bts_length h
  omega
/-- Whether a list may be is whether its joined list may. -/
theorem may_joinL {l : List S} (h : Ok l) (ht : tot l ≤ 1099511627776) : MayP (joinL l) := ⟨joinL_ok h, by rw [tot_joinL]; exact ht⟩

/-! ### What the law ScrapJoined asks -/
theorem joined_cut {l : List S} (h : MayP l) (at_ : Int) (a0 : 0 ≤ at_) (a1 : at_ ≤ tot l) :
    MayP (joinL (partL l 0 at_) ++ joinL (partL l at_ (tot l))) ∧ joinL (joinL (partL l 0 at_) ++ joinL (partL l at_ (tot l))) = joinL l := by
  have o1 := partL_ok h.1 0 at_
  have o2 := partL_ok h.1 at_ (tot l)
  have t1 := tot_partL h.1 0 at_ (by omega) (by omega) a1
  have t2 := tot_partL h.1 at_ (tot l) (by omega) (by omega) (by omega)
  have hb := bts_length h.1
  refine ⟨⟨(joinL_ok o1).append (joinL_ok o2), ?_⟩, ?_⟩
  · rw [tot_append, tot_joinL, tot_joinL, t1, t2]; have := h.2; omega
  · apply joinL_congr ((joinL_ok o1).append (joinL_ok o2)) h.1
    rw [bts_append, bts_joinL o1, bts_joinL o2, bts_partL h.1, bts_partL h.1]
    have e : (bts l).take (tot l).toNat = bts l := List.take_of_length_le (by omega)
    rw [e]
    simp
theorem joined_splice {l : List S} (h : MayP l) (at_ n : Int) (a0 : 0 ≤ at_) (n0 : 0 ≤ n) (_a1 : at_ ≤ tot l) (_n1 : n ≤ tot l - at_) :
    joinL (partL l 0 at_ ++ (joinL (partL l at_ (at_ + n)) ++ partL l (at_ + n) (tot l))) = joinL l := by
  have o1 := partL_ok h.1 0 at_
  have o2 := partL_ok h.1 at_ (at_ + n)
  have o3 := partL_ok h.1 (at_ + n) (tot l)
  have hb := bts_length h.1
  apply joinL_congr (o1.append ((joinL_ok o2).append o3)) h.1
  rw [bts_append, bts_append, bts_joinL o2, bts_partL h.1, bts_partL h.1, bts_partL h.1]
  have e : (bts l).take (tot l).toNat = bts l := List.take_of_length_le (by omega)
  have e2 : (at_ + n).toNat = at_.toNat + n.toNat := by omega
  simp only [Int.toNat_zero, List.drop_zero]
  rw [e, e2, List.drop_take]
  have e3 : at_.toNat + n.toNat - at_.toNat = n.toNat := by omega
  rw [e3, ← List.drop_drop, List.take_append_drop, List.take_append_drop]

/-! ### What the law ScrapUndone asks -/
theorem undone_may {l put : List S} (h : MayP l) (hp : MayP put) (at_ n : Int) (a0 : 0 ≤ at_) (n0 : 0 ≤ n) (a1 : at_ ≤ tot l) (n1 : n ≤ tot l - at_) (hbig : tot l - n + tot put ≤ 1099511627776) :
    MayP (joinL (partL l 0 at_ ++ (put ++ partL l (at_ + n) (tot l)))) ∧ tot (joinL (partL l 0 at_ ++ (put ++ partL l (at_ + n) (tot l)))) = tot l - n + tot put := by
  have o1 := partL_ok h.1 0 at_
  have o3 := partL_ok h.1 (at_ + n) (tot l)
  have t1 := tot_partL h.1 0 at_ (by omega) (by omega) a1
  have t3 := tot_partL h.1 (at_ + n) (tot l) (by omega) (by omega) (by omega)
  have ht : tot (joinL (partL l 0 at_ ++ (put ++ partL l (at_ + n) (tot l)))) = tot l - n + tot put := by
    rw [tot_joinL, tot_append, tot_append, t1, t3]; omega
  exact ⟨⟨joinL_ok (o1.append (hp.1.append o3)), by rw [ht]; exact hbig⟩, ht⟩
theorem undone_splice {l put : List S} (h : MayP l) (hp : MayP put) (at_ n : Int) (a0 : 0 ≤ at_) (n0 : 0 ≤ n) (a1 : at_ ≤ tot l) (n1 : n ≤ tot l - at_) (hbig : tot l - n + tot put ≤ 1099511627776)
    (x : List S) (hx : x = joinL (partL l 0 at_ ++ (put ++ partL l (at_ + n) (tot l)))) :
    spliceE x at_ (tot put) (joinL (partL l at_ (at_ + n))) = 0 ∧ spliceL x at_ (tot put) (joinL (partL l at_ (at_ + n))) = joinL l := by
  have hu := undone_may h hp at_ n a0 n0 a1 n1 hbig
  rw [← hx] at hu
  obtain ⟨hxm, hxt⟩ := hu
  have o1 := partL_ok h.1 0 at_
  have o2 := partL_ok h.1 at_ (at_ + n)
  have o3 := partL_ok h.1 (at_ + n) (tot l)
  have t2 := tot_partL h.1 at_ (at_ + n) (by omega) (by omega) (by omega)
  have hb := bts_length h.1
  have hbp := bts_length hp.1
  have pm : MayP (joinL (partL l at_ (at_ + n))) := may_joinL o2 (by have := h.2; omega)
  have p0 := tot_nonneg put hp.1
  have hE : spliceE x at_ (tot put) (joinL (partL l at_ (at_ + n))) = 0 := by
    unfold spliceE
    rw [if_neg (by simpa using ⟨hxm, pm⟩), if_neg (by omega), if_neg (by rw [tot_joinL, t2, hxt]; have := h.2; omega)]
  refine ⟨hE, ?_⟩
  unfold spliceL
  rw [if_pos hE]
  have oX := hxm.1
  apply joinL_congr ((partL_ok oX 0 at_).append (pm.1.append (partL_ok oX _ _))) h.1
  have hbx : bts x = (bts l).take at_.toNat ++ (bts put ++ (bts l).drop (at_.toNat + n.toNat)) := by
    rw [hx, bts_joinL (o1.append (hp.1.append o3)), bts_append, bts_append, bts_partL h.1, bts_partL h.1]
    have e : (bts l).take (tot l).toNat = bts l := List.take_of_length_le (by omega)
    have e2 : (at_ + n).toNat = at_.toNat + n.toNat := by omega
    rw [e, e2]; simp
  have hlx := bts_length oX
  rw [bts_append, bts_append, bts_joinL o2, bts_partL oX, bts_partL oX, bts_partL h.1]
  have e : (bts x).take (tot x).toNat = bts x := List.take_of_length_le (by omega)
  rw [e]
  have l1 : ((bts l).take at_.toNat).length = at_.toNat := by rw [List.length_take]; omega
  have ex1 : (bts x).take at_.toNat = (bts l).take at_.toNat := by
    rw [hbx, List.take_append_of_le_length (by omega), List.take_take, Nat.min_self]
  have e2 : (at_ + tot put).toNat = at_.toNat + (bts put).length := by omega
  have ex2 : (bts x).drop (at_ + tot put).toNat = (bts l).drop (at_.toNat + n.toNat) := by
    rw [hbx, e2, ← List.append_assoc, List.drop_left' (by rw [List.length_append, l1])]
  have e3 : (at_ + n).toNat = at_.toNat + n.toNat := by omega
  have e4 : at_.toNat + n.toNat - at_.toNat = n.toNat := by omega
  simp only [Int.toNat_zero, List.drop_zero]
  rw [ex1, ex2, e3, List.drop_take, e4, ← List.drop_drop, List.take_append_drop, List.take_append_drop]
end Go.Proofs.YtblibmalommdkaaGreat.Sc

/-
  The text of a list is its bytes, looked up in the sources: so the text of a splice is the splice of the texts. No program in sight.
-/
namespace Go.Proofs.YtblibmalommdkaaGreat.Sc
open Go.RowKit
def look (srcs : List (List Int)) (x : Int × Int) : Int := (srcs.getD x.1.toNat []).getD x.2.toNat 0
theorem pieceB_look {srcs : List (List Int)} {s : S} (h : Has srcs s) (ho : okS s) : pieceB srcs s = (sb s).map (look srcs) := by
  unfold Has at h
  unfold okS at ho
  apply List.ext_getElem
  · simp only [pieceB, List.length_take, List.length_drop, List.length_map, sb_length]; omega
  · intro i h1 h2
    simp only [pieceB, List.length_take, List.length_drop] at h1
    have e : (s.at_ + (i : Int)).toNat = s.at_.toNat + i := by omega
    simp only [pieceB, sb, look, List.getElem_take, List.getElem_drop, List.getElem_map, List.getElem_range, e]
    rw [List.getD_eq_getElem?_getD]
    unfold srcOf
    rw [List.getElem?_eq_getElem (by unfold srcOf at h1; omega)]
    rfl
theorem textB_look {srcs : List (List Int)} {l : List S} (h : ∀ s ∈ l, Has srcs s) (ho : Ok l) : textB srcs l = (bts l).map (look srcs) := by
  induction l with
  | nil => rfl
  | cons a l ih =>
    have h1 := pieceB_look (h a (by simp)) (ho a (by simp))
    have h2 := ih (fun s hs => h s (by simp [hs])) ho.tail
    simp only [textB, List.flatMap_cons, bts_cons, List.map_append] at h2 ⊢
    rw [h1, h2]
def Hass (srcs : List (List Int)) (l : List S) : Prop := ∀ s ∈ l, Has srcs s
theorem Hass.append {srcs : List (List Int)} {l m : List S} (h : Hass srcs l) (h' : Hass srcs m) : Hass srcs (l ++ m) := fun s hs => by
  rcases List.mem_append.1 hs with h1 | h1
  · exact h s h1
  · exact h' s h1
theorem Hass.nil (srcs : List (List Int)) : Hass srcs [] := fun s hs => by simp at hs
theorem Hass.one {srcs : List (List Int)} {s : S} (h : Has srcs s) : Hass srcs [s] := fun t ht => by simp at ht; subst ht; exact h
theorem glue_has {srcs : List (List Int)} {l : List S} {s : S} (h : Hass srcs l) (hs : Has srcs s) (_ho : okS s) (hol : Ok l) : Hass srcs (glue l s) := by
  rcases snoc_cases l with rfl | ⟨L, t, rfl⟩
  · exact Hass.one hs
  · by_cases hc : t.src = s.src ∧ t.at_ + t.len = s.at_
    · rw [glue_yes L t s hc]
      refine Hass.append (fun u hu => h u (by simp [hu])) (Hass.one ?_)
      have ht := h t (by simp)
      have hot := hol t (by simp)
      unfold okS at hot
      unfold Has srcOf at *
      simp only
      rw [← hc.1] at hs
      omega
    · rw [glue_no L t s hc]
      exact h.append (Hass.one hs)
theorem foldl_has {srcs : List (List Int)} (l : List S) : ∀ out, Hass srcs out → Ok out → Hass srcs l → Ok l → Hass srcs (l.foldl glue out) := by
  induction l with
  | nil => intro out h _ _ _; exact h
  | cons a l ih =>
    intro out h ho h' ho'
    have ha := ho' a (by simp)
    exact ih _ (glue_has h (h' a (by simp)) ha ho) (glue_ok ho ha) (fun s hs => h' s (by simp [hs])) ho'.tail
theorem joinL_has {srcs : List (List Int)} {l : List S} (h : Hass srcs l) (ho : Ok l) : Hass srcs (joinL l) := foldl_has l [] (Hass.nil _) ok_nil h ho
theorem partL_has {srcs : List (List Int)} {l : List S} (h : Hass srcs l) (ho : Ok l) (f t : Int) : Hass srcs (partL l f t) := by
  induction l generalizing f t with
  | nil => exact Hass.nil _
  | cons a l ih =>
    refine Hass.append ?_ (ih (fun s hs => h s (by simp [hs])) ho.tail _ _)
    by_cases hc : f < a.len ∧ 0 < t ∧ f < t
    · rw [bit_yes hc rfl rfl]
      refine Hass.one ?_
      have ha := h a (by simp)
      have hoa := ho a (by simp)
      unfold okS at hoa
      unfold Has srcOf at *
      simp only
      omega
    · rw [bit_no hc]; exact Hass.nil _
/-- The text of a splice, and of a piece. -/
theorem splice_text {srcs : List (List Int)} {l put : List S} (h : Hass srcs l) (hp : Hass srcs put) (hm : MayP l) (hmp : MayP put) (at_ n : Int) (a0 : 0 ≤ at_) (n0 : 0 ≤ n) (_a1 : at_ ≤ tot l) (_n1 : n ≤ tot l - at_) :
    Hass srcs (joinL (partL l 0 at_ ++ (put ++ partL l (at_ + n) (tot l)))) ∧
    textB srcs (joinL (partL l 0 at_ ++ (put ++ partL l (at_ + n) (tot l)))) = (textB srcs l).take at_.toNat ++ textB srcs put ++ (textB srcs l).drop (at_.toNat + n.toNat) := by
  have o1 := partL_ok hm.1 0 at_
  have o3 := partL_ok hm.1 (at_ + n) (tot l)
  have oo := o1.append (hmp.1.append o3)
  have hh := (partL_has h hm.1 0 at_).append (hp.append (partL_has h hm.1 (at_ + n) (tot l)))
  have hj := joinL_has hh oo
  refine ⟨hj, ?_⟩
  have hb := bts_length hm.1
  rw [textB_look hj (joinL_ok oo), bts_joinL oo, bts_append, bts_append, bts_partL hm.1, bts_partL hm.1, textB_look h hm.1, textB_look hp hmp.1]
  have e : (bts l).take (tot l).toNat = bts l := List.take_of_length_le (by omega)
  have e2 : (at_ + n).toNat = at_.toNat + n.toNat := by omega
  rw [e, e2]
  simp only [Int.toNat_zero, List.drop_zero, List.map_append, List.map_take, List.map_drop, List.append_assoc]
theorem piece_text {srcs : List (List Int)} {l : List S} (h : Hass srcs l) (hm : MayP l) (at_ n : Int) (a0 : 0 ≤ at_) (n0 : 0 ≤ n) :
    Hass srcs (joinL (partL l at_ (at_ + n))) ∧ textB srcs (joinL (partL l at_ (at_ + n))) = ((textB srcs l).drop at_.toNat).take n.toNat := by
  have o1 := partL_ok hm.1 at_ (at_ + n)
  have hh := partL_has h hm.1 at_ (at_ + n)
  have hj := joinL_has hh o1
  refine ⟨hj, ?_⟩
  rw [textB_look hj (joinL_ok o1), bts_joinL o1, bts_partL hm.1, textB_look h hm.1]
  have e2 : (at_ + n).toNat = at_.toNat + n.toNat := by omega
  rw [e2, List.drop_take]
  have e4 : at_.toNat + n.toNat - at_.toNat = n.toNat := by omega
  rw [e4, List.map_take, List.map_drop]
end Go.Proofs.YtblibmalommdkaaGreat.Sc
