/-
  The text of a list is its bytes, looked up in the sources: so the text of a splice is the splice of the texts. No program in sight.
-/
import Derived.Test.YtlgablhlpcmcaaaCuts
import Derived.Test.YtlgablhlpcmcaaaBytes
namespace Go.Proofs.Ytlgablhlpcmcaaa
open Go.RowKit
def look (srcs : List (List Int)) (x : Int × Int) : Int := (srcs.getD x.1.toNat []).getD x.2.toNat 0
theorem pieceB_look {srcs : List (List Int)} {s : S} (h : Has srcs s) (ho : okS s) : pieceB srcs s = (sb s).map (look srcs) := by
  unfold Has at h
  unfold okS at ho
  apply List.ext_getElem
  · simp only [pieceB, List.length_take, List.length_drop, List.length_map, sb_length]; omega
  · intro i h1 h2
    simp only [pieceB, List.length_take, List.length_drop] at h1
    have e : (s.at_ + (i : Int)).toNat = s.at_.toNat + i := by omega
    simp only [pieceB, sb, look, List.getElem_take, List.getElem_drop, List.getElem_map, List.getElem_range, e]
    rw [List.getD_eq_getElem?_getD]
    unfold srcOf
    rw [List.getElem?_eq_getElem (by unfold srcOf at h1; omega)]
    rfl
theorem textB_look {srcs : List (List Int)} {l : List S} (h : ∀ s ∈ l, Has srcs s) (ho : Ok l) : textB srcs l = (bts l).map (look srcs) := by
  induction l with
  | nil => rfl
  | cons a l ih =>
    have h1 := pieceB_look (h a (by simp)) (ho a (by simp))
    have h2 := ih (fun s hs => h s (by simp [hs])) ho.tail
    simp only [textB, List.flatMap_cons, bts_cons, List.map_append] at h2 ⊢
    rw [h1, h2]
def Hass (srcs : List (List Int)) (l : List S) : Prop := ∀ s ∈ l, Has srcs s
theorem Hass.append {srcs : List (List Int)} {l m : List S} (h : Hass srcs l) (h' : Hass srcs m) : Hass srcs (l ++ m) := fun s hs => by
  rcases List.mem_append.1 hs with h1 | h1
  · exact h s h1
  · exact h' s h1
theorem Hass.nil (srcs : List (List Int)) : Hass srcs [] := fun s hs => by simp at hs
theorem Hass.one {srcs : List (List Int)} {s : S} (h : Has srcs s) : Hass srcs [s] := fun t ht => by simp at ht; subst ht; exact h
theorem glue_has {srcs : List (List Int)} {l : List S} {s : S} (h : Hass srcs l) (hs : Has srcs s) (_ho : okS s) (hol : Ok l) : Hass srcs (glue l s) := by
  rcases snoc_cases l with rfl | ⟨L, t, rfl⟩
  · exact Hass.one hs
  · by_cases hc : t.src = s.src ∧ t.at_ + t.len = s.at_
    · rw [glue_yes L t s hc]
      refine Hass.append (fun u hu => h u (by simp [hu])) (Hass.one ?_)
      have ht := h t (by simp)
      have hot := hol t (by simp)
      unfold okS at hot
      unfold Has srcOf at *
      simp only
      rw [← hc.1] at hs
      omega
    · rw [glue_no L t s hc]
      exact h.append (Hass.one hs)
theorem foldl_has {srcs : List (List Int)} (l : List S) : ∀ out, Hass srcs out → Ok out → Hass srcs l → Ok l → Hass srcs (l.foldl glue out) := by
  induction l with
  | nil => intro out h _ _ _; exact h
  | cons a l ih =>
    intro out h ho h' ho'
    have ha := ho' a (by simp)
    exact ih _ (glue_has h (h' a (by simp)) ha ho) (glue_ok ho ha) (fun s hs => h' s (by simp [hs])) ho'.tail
theorem joinL_has {srcs : List (List Int)} {l : List S} (h : Hass srcs l) (ho : Ok l) : Hass srcs (joinL l) := foldl_has l [] (Hass.nil _) ok_nil h ho
theorem partL_has {srcs : List (List Int)} {l : List S} (h : Hass srcs l) (ho : Ok l) (f t : Int) : Hass srcs (partL l f t) := by
  induction l generalizing f t with
  | nil => exact Hass.nil _
  | cons a l ih =>
    refine Hass.append ?_ (ih (fun s hs => h s (by simp [hs])) ho.tail _ _)
    by_cases hc : f < a.len ∧ 0 < t ∧ f < t
    · rw [bit_yes hc rfl rfl]
      refine Hass.one ?_
      have ha := h a (by simp)
      have hoa := ho a (by simp)
      unfold okS at hoa
      unfold Has srcOf at *
      simp only
      omega
    · rw [bit_no hc]; exact Hass.nil _
/-- The text of a splice, and of a piece. -/
theorem splice_text {srcs : List (List Int)} {l put : List S} (h : Hass srcs l) (hp : Hass srcs put) (hm : MayP l) (hmp : MayP put) (at_ n : Int) (a0 : 0 ≤ at_) (n0 : 0 ≤ n) (_a1 : at_ ≤ tot l) (_n1 : n ≤ tot l - at_) :
    Hass srcs (joinL (partL l 0 at_ ++ (put ++ partL l (at_ + n) (tot l)))) ∧
    textB srcs (joinL (partL l 0 at_ ++ (put ++ partL l (at_ + n) (tot l)))) = (textB srcs l).take at_.toNat ++ textB srcs put ++ (textB srcs l).drop (at_.toNat + n.toNat) := by
  have o1 := partL_ok hm.1 0 at_
  have o3 := partL_ok hm.1 (at_ + n) (tot l)
  have oo := o1.append (hmp.1.append o3)
  have hh := (partL_has h hm.1 0 at_).append (hp.append (partL_has h hm.1 (at_ + n) (tot l)))
  have hj := joinL_has hh oo
  refine ⟨hj, ?_⟩
  have hb := bts_length hm.1
  rw [textB_look hj (joinL_ok oo), bts_joinL oo, bts_append, bts_append, bts_partL hm.1, bts_partL hm.1, textB_look h hm.1, textB_look hp hmp.1]
  have e : (bts l).take (tot l).toNat = bts l := List.take_of_length_le (by omega)
  have e2 : (at_ + n).toNat = at_.toNat + n.toNat := by omega
  rw [e, e2]
  simp only [Int.toNat_zero, List.drop_zero, List.map_append, List.map_take, List.map_drop, List.append_assoc]
theorem piece_text {srcs : List (List Int)} {l : List S} (h : Hass srcs l) (hm : MayP l) (at_ n : Int) (a0 : 0 ≤ at_) (n0 : 0 ≤ n) :
    Hass srcs (joinL (partL l at_ (at_ + n))) ∧ textB srcs (joinL (partL l at_ (at_ + n))) = ((textB srcs l).drop at_.toNat).take n.toNat := by
  have o1 := partL_ok hm.1 at_ (at_ + n)
  have hh := partL_has h hm.1 at_ (at_ + n)
  have hj := joinL_has hh o1
  refine ⟨hj, ?_⟩
  rw [textB_look hj (joinL_ok o1), bts_joinL o1, bts_partL hm.1, textB_look h hm.1]
  have e2 : (at_ + n).toNat = at_.toNat + n.toNat := by omega
  rw [e2, List.drop_take]
  have e4 : at_.toNat + n.toNat - at_.toNat = n.toNat := by omega
  rw [e4, List.map_take, List.map_drop]
end Go.Proofs.Ytlgablhlpcmcaaa
