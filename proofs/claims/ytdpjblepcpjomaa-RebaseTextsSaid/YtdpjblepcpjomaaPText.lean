/-
  All that RebaseTexts needs of its lists, plain: nothing is lost, and the texts stay. No program in sight.
-/
import Derived.Test.YtdpjblepcpjomaaLFacts
import Derived.Test.YtdpjblepcpjomaaSWalkh
namespace Go.Proofs.Ytdpjblepcpjomaa.Rb
open Go.RowKit
theorem textE_ok {srcs : List (List Int)} {l : List S} (h : Sc.Hass srcs l) (hm : Sc.MayP l) : Sc.TextE srcs l = 0 ∧ Sc.TextL srcs l = Sc.textB srcs l := by
  have e : Sc.TextE srcs l = 0 := by unfold Sc.TextE; rw [if_pos hm, Sc.textE_all h]
  exact ⟨e, Sc.TextL_ok e⟩
structure Tx (orig tl : List Int) (T l : List S) (RS : List R) : Prop where
  ok : MayX l
  len_ : l.length ≤ 30
  move : moveE T RS tl.length l = 0 ∧ moveR T RS tl.length l = moveL (Sc.bts T) RS tl.length (Sc.bts l)
  mlen : (moveL (Sc.bts T) RS tl.length (Sc.bts l)).length ≤ 60000
  txt : Sc.TextE [orig, tl] l = 0 ∧ Sc.TextL [orig, tl] l = Sc.textB [orig, tl] l
  txt2 : Sc.TextE [Sc.textB [orig, tl] T, tl ++ resB orig RS] (moveL (Sc.bts T) RS tl.length (Sc.bts l)) = 0 ∧
    Sc.TextL [Sc.textB [orig, tl] T, tl ++ resB orig RS] (moveL (Sc.bts T) RS tl.length (Sc.bts l)) = Sc.textB [orig, tl] l
theorem tx_ok {orig tl : List Int} (hN : orig.length ≤ 2000) (hM : tl.length ≤ 2000) {T l : List S} {ls : List (List S)} (hT : FewP orig.length tl.length T) (hTl : T.length ≤ 30)
    (h : ∀ l ∈ ls, FewP orig.length tl.length l) (hl : l ∈ ls) (hll : l.length ≤ 30) : Tx orig tl T l (rescueR T ls) := by
  have mT := few_may hN hM hT hTl
  have mX := few_may hN hM (h l hl) hll
  have hG := few_good hN hM hT hTl h hl hll
  have hR := res_ok (N := orig.length) (M := tl.length) (T := T) hN hM h
  have hA := move_all hN hM (T := T) h hl (tl.length : Int)
  have a1 : (tl.length : Int) + tot (rescueR T ls) ≤ 1099511627776 := by have := hR.tot_; omega
  have hbd := bd_bts mX.1.2.1
  have hXb := Sc.bts_length mX.1.2.1
  have hm := moved_may mT.1.2 hR.right (by omega) a1 hbd (by have := mX.2; omega)
  have hbts := moved_bts mT.1.2 hR.right (by omega) a1 hbd
  have hs := texts_stay mT.1.2 (few_has hT) hR.bds hR.right a1 mX.1.2.1 (few_has (h l hl)) (few_ins (h l hl)) hA
  have ht2 := textE_ok hs.1 hm.2
  refine ⟨mX.1, hll, move_done hG hA, ?_, textE_ok (few_has (h l hl)) mX.1.2, ht2.1, ht2.2.trans hs.2⟩
  have h1 := Sc.len_le_tot _ hm.2.1
  have h2 := Sc.bts_length hm.2.1
  have h3 := List.length_filterMap_le (mv (Sc.bts T) (rescueR T ls) tl.length) (Sc.bts l)
  rw [← hbts] at h3
  have := mX.2
  omega
theorem flat_small {ls : List (List S)} (h : ∀ l ∈ ls, l.length ≤ 30) : ls.flatten.length ≤ 30 * ls.length := by
  induction ls with
  | nil => simp
  | cons a l ih =>
    have h1 := h a (by simp)
    have h2 := ih fun m hm => h m (List.mem_cons_of_mem _ hm)
    simp only [List.flatten_cons, List.length_append, List.length_cons]; omega
theorem resB_snoc (orig : List Int) (RS : List R) {k : Nat} {r : R} (h : RS[k]? = some r) : resB orig (RS.take (k+1)) = resB orig (RS.take k) ++ cutB orig r := by
  rw [Sc.take_snoc RS k r h]; simp [resB]
theorem resB_take_len {orig : List Int} {RS : List R} (h : Bds orig.length RS) (hR : Right RS) {k : Nat} {r : R} (hr : RS[k]? = some r) : ((resB orig (RS.take k)).length : Int) + (r.2 - r.1) ≤ tot RS := by
  have h1 := resB_len (orig := orig) (RS := RS.take k) (fun q hq => h q (List.mem_of_mem_take hq))
  have h2 := tot_take_le hR hr
  omega
/-- Two slices of bytes as sources. -/
theorem rdbl_two (w : World) (A B : Option Addr) (n m c d : Nat) (a b : List Int) (g : Nat) (hg : g = w.heap.size) (hn : a.length = n) (hm : b.length = m) (ha : Sc.RdB w w.heap.size A a) (hb : Sc.RdB w w.heap.size B b) (hac : n ≤ c) (hc : c ≤ maxLen) (hbd : m ≤ d) (hd : d ≤ maxLen) :
    Sc.RdBL (w.alloc (.cells #[.slice A n c, .slice B m d] 41)) (w.alloc (.cells #[.slice A n c, .slice B m d] 41)).heap.size (some ⟨g, 0, none⟩) [a, b] := by
  subst hg; subst hn; subst hm
  have b3 : Below w.heap.size w (w.alloc (.cells #[.slice A a.length c, .slice B b.length d] 41)) := (Below.refl _ _).alloc (Nat.le_refl _) _
  intro k m hm
  match k with
  | 0 =>
    simp at hm; subst hm
    refine ⟨w.heap.size, 0, A, c, rfl, by simp, ?_, hac, hc, ha.up b3⟩
    rw [Sc.cell_new]; rfl
  | 1 =>
    simp at hm; subst hm
    refine ⟨w.heap.size, 0, B, d, rfl, by simp, ?_, hbd, hd, hb.up b3⟩
    rw [Sc.cell_new]; rfl
  | k+2 => simp at hm
theorem FAt.below {w w' : World} {g B : Nat} {v0 v1 : Value} (h : FAt w g v0 v1) (hb : Below B w w') (hB : w.heap.size ≤ B) : FAt w' g v0 v1 :=
  ⟨by have := h.lt; have := hb.size; omega, (hb.cell (p := ⟨g, 0, none⟩) (show g < B by have := h.lt; omega)).trans h.c0, (hb.cell (p := ⟨g, 1, none⟩) (show g < B by have := h.lt; omega)).trans h.c1⟩
theorem Below.drew1 {B : Nat} {w w' : World} (hb : Below B w w') : Below B w w'.drew := ⟨hb.os, hb.tape, hb.output, hb.size, hb.block⟩
theorem cutB_cells {orig : List Int} {w : World} {B b off : Nat} (h : Sc.RdB w B (some ⟨b, off, none⟩) orig) (fr to_ : Nat) (hft : fr ≤ to_) : ∀ j u, (Sc.bcells (cutB orig ((fr : Int), (to_ : Int))))[j]? = some u → w.cell? ((⟨b, off + fr, none⟩ : Addr).add j) = some u := by
  have h1 := (h.piece fr (to_ - fr)).cells
  have e : cutB orig ((fr : Int), (to_ : Int)) = (orig.drop fr).take (to_ - fr) := by
    unfold cutB
    simp only [Int.toNat_natCast]
    congr 1; omega
  rw [e]; exact h1
end Go.Proofs.Ytdpjblepcpjomaa.Rb
