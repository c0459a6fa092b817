/-
  The text of a list is its bytes, looked up in the sources: so the text of a splice is the splice of the texts. No program in sight.
-/
import Derived.Test.YtdpjblepcpjomaaSBts
import Derived.Test.YtdpjblepcpjomaaSBytes
namespace Go.Proofs.Ytdpjblepcpjomaa.Sc
open Go.RowKit
def look (srcs : List (List Int)) (x : Int × Int) : Int := (srcs.getD x.1.toNat []).getD x.2.toNat 0
theorem pieceB_look {srcs : List (List Int)} {s : S} (h : Has srcs s) (ho : okS s) : pieceB srcs s = (sb s).map (look srcs) := by
  unfold Has at h
  unfold okS at ho
  apply List.ext_getElem
  · simp only [pieceB, List.length_take, List.length_drop, List.length_map, sb_length]; omega
  · intro i h1 h2
    simp only [pieceB, List.length_take, List.length_drop] at h1
    have e : (s.at_ + (i : Int)).toNat = s.at_.toNat + i := by omega
    simp only [pieceB, sb, look, List.getElem_take, List.getElem_drop, List.getElem_map, List.getElem_range, e]
    rw [List.getD_eq_getElem?_getD]
    unfold srcOf
    rw [List.getElem?_eq_getElem (by unfold srcOf at h1; omega)]
    rfl
theorem textB_look {srcs : List (List Int)} {l : List S} (h : ∀ s ∈ l, Has srcs s) (ho : Ok l) : textB srcs l = (bts l).map (look srcs) := by
  induction l with
  | nil => rfl
  | cons a l ih =>
    have h1 := pieceB_look (h a (by simp)) (ho a (by simp))
    have h2 := ih (fun s hs => h s (by simp [hs])) ho.tail
    simp only [textB, List.flatMap_cons, bts_cons, List.map_append] at h2 ⊢
    rw [h1, h2]
def Hass (srcs : List (List Int)) (l : List S) : Prop := ∀ s ∈ l, Has srcs s
theorem Hass.append {srcs : List (List Int)} {l m : List S} (h : Hass srcs l) (h' : Hass srcs m) : Hass srcs (l ++ m) := fun s hs => by
  rcases List.mem_append.1 hs with h1 | h1
  · exact h s h1
  · exact h' s h1
theorem Hass.nil (srcs : List (List Int)) : Hass srcs [] := fun s hs => by simp at hs
theorem Hass.one {srcs : List (List Int)} {s : S} (h : Has srcs s) : Hass srcs [s] := fun t ht => by simp at ht; subst ht; exact h
theorem glue_has {srcs : List (List Int)} {l : List S} {s : S} (h : Hass srcs l) (hs : Has srcs s) (_ho : okS s) (hol : Ok l) : Hass srcs (glue l s) := by
  rcases snoc_cases l with rfl | ⟨L, t, rfl⟩
  · exact Hass.one hs
  · by_cases hc : t.src = s.src ∧ t.at_ + t.len = s.at_
    · rw [glue_yes L t s hc]
      refine Hass.append (fun u hu => h u (by simp [hu])) (Hass.one ?_)
      have ht := h t (by simp)
      have hot := hol t (by simp)
      unfold okS at hot
      unfold Has srcOf at *
      simp only
      rw [← hc.1] at hs
      omega
    · rw [glue_no L t s hc]
      exact h.append (Hass.one hs)
theorem foldl_has {srcs : List (List Int)} (l : List S) : ∀ out, Hass srcs out → Ok out → Hass srcs l → Ok l → Hass srcs (l.foldl glue out) := by
  induction l with
  | nil => intro out h _ _ _; exact h
  | cons a l ih =>
    intro out h ho h' ho'
    have ha := ho' a (by simp)
    exact ih _ (glue_has h (h' a (by simp)) ha ho) (glue_ok ho ha) (fun s hs => h' s (by simp [hs])) ho'.tail
theorem joinL_has {srcs : List (List Int)} {l : List S} (h : Hass srcs l) (ho : Ok l) : Hass srcs (joinL l) := foldl_has l [] (Hass.nil _) ok_nil h ho
end Go.Proofs.Ytdpjblepcpjomaa.Sc
