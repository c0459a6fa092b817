/-
  What scrap.Size and scrap.Join answer, for every list.
-/
import Derived.Test.YtdpjblepcpjomaaSWalkc
namespace Go.Proofs.Ytdpjblepcpjomaa.Sc
open Go.RowKit
theorem Rd.up {w w' : World} {A : Option Addr} {l : List S} (h : Rd w w.heap.size A l) (hb : Below w.heap.size w w') : Rd w' w'.heap.size A l := (h.below hb (Nat.le_refl _)).more hb.size
theorem RdL.one {w : World} {A : Option Addr} {n c : Nat} {l : List S} (h : Rd w w.heap.size A l) (hn : l.length = n) (T : TypeId) : RdL (w.alloc (.cells #[.slice A n c] T)) (w.alloc (.cells #[.slice A n c] T)).heap.size (some ⟨w.heap.size, 0, none⟩) [l] := by
  intro k l' hl
  cases k with
  | zero =>
    simp at hl; subst hl; subst hn
    exact ⟨w.heap.size, 0, A, c, rfl, by simp, by rw [Nat.zero_add, cell_new]; rfl, (h.alloc (Nat.le_refl _) _).more (by simp)⟩
  | succ k => simp at hl
theorem RdL.three {w : World} {A A1 A2 : Option Addr} {n c n1 c1 n2 c2 : Nat} {l l1 l2 : List S} (h : Rd w w.heap.size A l) (hn : l.length = n) (h1 : Rd w w.heap.size A1 l1) (hn1 : l1.length = n1) (h2 : Rd w w.heap.size A2 l2) (hn2 : l2.length = n2) (T : TypeId) :
    RdL (w.alloc (.cells #[.slice A n c, .slice A1 n1 c1, .slice A2 n2 c2] T)) (w.alloc (.cells #[.slice A n c, .slice A1 n1 c1, .slice A2 n2 c2] T)).heap.size (some ⟨w.heap.size, 0, none⟩) [l, l1, l2] := by
  subst hn; subst hn1; subst hn2
  intro k l' hl
  match k, hl with
  | 0, hl =>
    simp at hl; subst hl
    exact ⟨w.heap.size, 0, A, c, rfl, by simp, by rw [cell_new]; rfl, (h.alloc (Nat.le_refl _) _).more (by simp)⟩
  | 1, hl =>
    simp at hl; subst hl
    exact ⟨w.heap.size, 0, A1, c1, rfl, by simp, by rw [cell_new]; rfl, (h1.alloc (Nat.le_refl _) _).more (by simp)⟩
  | 2, hl =>
    simp at hl; subst hl
    exact ⟨w.heap.size, 0, A2, c2, rfl, by simp, by rw [cell_new]; rfl, (h2.alloc (Nat.le_refl _) _).more (by simp)⟩
  | k+3, hl => simp at hl
theorem below_up {w w1 w2 : World} (h : Below w.heap.size w w1) (h' : Below w1.heap.size w1 w2) : Below w.heap.size w w2 := h.trans (h'.mono h.size)

/-! ### Size, Join -/
open Classical in
noncomputable def sizeL (l : List S) : Int := if MayP l then tot l else 0
open Classical in
noncomputable def JoinL (l : List S) : List S := if MayP l then joinL l else []
theorem len_of_may {l : List S} (h : MayP l) : l.length ≤ 1099511627776 := by have := len_le_tot l h.1; have := h.2; omega
theorem Join_any (A : Option Addr) (len cap : Nat) (w : World) (l : List S) (hlen : l.length = len) (hr : Rd w w.heap.size A l) (hm : len ≤ 9223372036854775807) :
    Calls Try.prog 38 #[.slice A len cap] w fun e w' => (∃ A' n c, e = .returned (.slice A' n c) ∧ Own w' w.heap.size A' n c (JoinL l)) ∧ Below w.heap.size w w' := by
  by_cases hM : MayP l
  · have e1 := mayB_of hM
    have hS : JoinL l = joinL l := if_pos hM
    have HS := Lib.hid hS; clear hS
    have H := Lib.hid hlen; have HM := Lib.hid hM; have HR := Lib.hid hr
    clear hlen hM hr
    go_enter Try.func38, Try.ntmps38
    go_wp2_with fail
    refine (may_any A len cap _ l H.out HR.out hm).mono ?_
    rintro e w1 ⟨rfl, hb⟩
    have HB := Lib.hid hb
    clear hb
    go_wp2_with fail
    refine (joined_any _ 1 1 _ [l] rfl (RdL.one (HR.out.up HB.out) H.out _) (by simpa using HM.out.1) (by simp; have := HM.out.2; omega) (by omega)).mono ?_
    rintro e w2 ⟨⟨A', n, c, rfl, hown⟩, hb2⟩
    have HB2 := Lib.hid hb2
    clear hb2
    go_wp2_with fail
    go_ret
    refine ⟨⟨_, _, _, rfl, ?_⟩, (HB.out.alloc HB.out.size _).trans (HB2.out.mono (by simp; have := HB.out.size; omega))⟩
    rw [HS.out]
    simp at hown
    exact hown.mono (by have := HB.out.size; omega)
  · have e1 := mayB_not hM
    have hS : JoinL l = [] := if_neg hM
    have HS := Lib.hid hS; clear hS
    go_enter Try.func38, Try.ntmps38
    go_wp2_with fail
    refine (may_any A len cap _ l hlen hr hm).mono ?_
    rintro e w1 ⟨rfl, hb⟩
    go_wp2_with fail
    go_ret
    exact ⟨⟨_, _, _, rfl, by rw [HS.out]; exact Own.nil _ _⟩, hb⟩
end Go.Proofs.Ytdpjblepcpjomaa.Sc
