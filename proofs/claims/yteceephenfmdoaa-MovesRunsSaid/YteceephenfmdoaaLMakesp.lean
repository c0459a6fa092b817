/-
  The piece of a target that is a block; two sources; plain.
-/
import Derived.Test.YteceephenfmdoaaNRow
import Derived.Test.YteceephenfmdoaaNLaw
import Derived.Test.YteceephenfmdoaaSE
namespace Go.Proofs.Yteceephenfmdoaa
open Go.RowKit
open Sc (RdB OwnB bcells RdBL)
theorem RdBL.two {w : World} {A1 A2 : Option Addr} {n1 c1 n2 c2 : Nat} {l1 l2 : List Int} (h1 : RdB w w.heap.size A1 l1) (hn1 : l1.length = n1) (hc1 : n1 ≤ c1 ∧ c1 ≤ maxLen) (h2 : RdB w w.heap.size A2 l2) (hn2 : l2.length = n2) (hc2 : n2 ≤ c2 ∧ c2 ≤ maxLen) (T : TypeId) :
    RdBL (w.alloc (.cells #[.slice A1 n1 c1, .slice A2 n2 c2] T)) (w.alloc (.cells #[.slice A1 n1 c1, .slice A2 n2 c2] T)).heap.size (some ⟨w.heap.size, 0, none⟩) [l1, l2] := by
  subst hn1; subst hn2
  intro k l' hl
  match k, hl with
  | 0, hl =>
    simp at hl; subst hl
    exact ⟨w.heap.size, 0, A1, c1, rfl, by simp, by rw [cell_new]; rfl, hc1.1, hc1.2, (h1.alloc (Nat.le_refl _) _).more (by simp)⟩
  | 1, hl =>
    simp at hl; subst hl
    exact ⟨w.heap.size, 0, A2, c2, rfl, by simp, by rw [cell_new]; rfl, hc2.1, hc2.2, (h2.alloc (Nat.le_refl _) _).more (by simp)⟩
  | k+2, hl => simp at hl
/-- The piece of a block. -/
theorem piece_blk {l : List S} (hl : Sc.MayP l) {b : Nat} (hb : 64 * (b : Int) < Sc.tot l) {m : Int} (hm : m = min 64 (Sc.tot l - 64 * (b : Int))) :
    Sc.pieceE l (64 * (b : Int)) m = 0 ∧ (Stays l b ↔ ∃ x, Sc.pieceL l (64 * (b : Int)) m = [x] ∧ x.src = 0 ∧ x.at_ = 64 * (b : Int)) := by
  have hE : Sc.pieceE l (64 * (b : Int)) m = 0 := by
    unfold Sc.pieceE
    rw [if_neg (by simpa using hl), if_neg (by omega)]
  have hP : Sc.pieceL l (64 * (b : Int)) m = Sc.joinL (Sc.partL l (64 * (b : Int)) (64 * (b : Int) + m)) := by unfold Sc.pieceL; rw [if_pos hE]
  have o1 := Sc.partL_ok hl.1 (64 * (b : Int)) (64 * (b : Int) + m)
  have b1 := Sc.bts_partL hl.1 (64 * (b : Int)) (64 * (b : Int) + m)
  have t1 := Sc.tot_partL hl.1 (64 * (b : Int)) (64 * (b : Int) + m) (by omega) (by omega) (by omega)
  have l1 := Sc.bts_length hl.1
  refine ⟨hE, ?_⟩
  rw [hP]
  refine stays_iff hl hb (Sc.may_joinL o1 (by have := hl.2; omega)) (Sc.joinL_joinL o1) ?_ (by rw [Sc.tot_joinL, t1]; omega)
  rw [Sc.bts_joinL o1, b1]
  unfold blkB
  apply List.ext_getElem?
  intro i
  rw [List.getElem?_drop]
  by_cases hi : i < m.toNat
  · rw [List.getElem?_take_of_lt (by omega), List.getElem?_take_of_lt (by omega), List.getElem?_drop]
    congr 1
  · rw [List.getElem?_eq_none (by rw [List.length_take]; omega), List.getElem?_eq_none (by rw [List.length_take, List.length_drop]; omega)]
end Go.Proofs.Yteceephenfmdoaa
