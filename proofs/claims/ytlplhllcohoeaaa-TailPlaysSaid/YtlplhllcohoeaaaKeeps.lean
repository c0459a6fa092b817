/-
  The disk's parts stay where one block is changed that holds none of them. No walk.
-/
import Derived.Test.YtlplhllcohoeaaaDisk
namespace Go.Proofs.Ytlplhllcohoeaaa
open Go.RowKit
/-- A block that is no row of bytes, of files, of pieces. -/
structure Odd (w : World) (x : Nat) (t : TypeId) : Prop where
  nb : ∀ o v, w.cell? ⟨x, o, none⟩ ≠ some (.int .u8 v)
  ty : ∀ t', t' ≠ t → ∀ cs z, w.heap[x]? ≠ some (.cells cs t' z)
theorem cells_odd {w : World} {x : Nat} {cs : Array Value} {t : TypeId} (h : w.heap[x]? = some (.cells cs t (0, 0))) (hn : ∀ u ∈ cs.toList, ∀ v, u ≠ .int .u8 v) : Odd w x t := by
  refine ⟨fun o v hc => ?_, fun t' ht cs' z hh => ?_⟩
  · rw [cell_of_row _ _ o _ t (0, 0) h] at hc
    have hm : Value.int .u8 v ∈ cs := Array.mem_of_getElem? hc
    exact hn _ (Array.mem_toList_iff.2 hm) v rfl
  · rw [h] at hh
    injection hh with hh
    injection hh with _ hh _
    exact ht hh.symm
section
variable {w w' : World} {x : Nat} {t : TypeId}
theorem RdB.keepX {B B' : Nat} {A : Option Addr} {l : List Int} (h : RdB w B A l) (hB : B ≤ B') (hx : Odd w x t) (hk : ∀ g, g ≠ x → w'.heap[g]? = w.heap[g]?) : RdB w' B' A l := by
  intro k s hs
  obtain ⟨b, off, e, hb, h0⟩ := h k s hs
  by_cases hbx : b = x
  · subst hbx; exact absurd h0 (hx.nb _ _)
  · exact ⟨b, off, e, by omega, (World.cell?_of_block (w := w) (hk b hbx)).trans h0⟩
theorem row_keepX {base e sz n c : Nat} {A : Option Addr} {xs : List Value} (h : w.ownsRow base e sz (.slice A n c) n xs) (hx : Odd w x t) (ht : e ≠ t) (hk : ∀ g, g ≠ x → w'.heap[g]? = w.heap[g]?) : w'.ownsRow base e sz (.slice A n c) n xs := by
  obtain ⟨h1, h2⟩ := h
  refine ⟨h1, ?_⟩
  rcases h2 with h2 | ⟨g, cap, cur, hv, hb, hg, r⟩
  · exact .inl h2
  · by_cases hgx : g = x
    · subst hgx; exact absurd hg (hx.ty _ ht _ _)
    · exact .inr ⟨g, cap, cur, hv, hb, (hk g hgx).trans hg, r⟩
theorem OwnB.keepX {base : Nat} {A : Option Addr} {n c : Nat} {l : List Int} (h : OwnB w base A n c l) (hx : Odd w x t) (ht : 5 ≠ t) (hk : ∀ g, g ≠ x → w'.heap[g]? = w.heap[g]?) : OwnB w' base A n c l := ⟨h.1, row_keepX h.2 hx ht hk⟩
theorem FileAt.keepX {S : Nat → Prop} {fb : Nat} {f : Fl} {An : Option Addr} {cn : Nat} {As : Option Addr} {cs : Nat} (h : FileAt w S fb f An cn As cs) (hx : Odd w x t) (h5 : 5 ≠ t) (hne : fb ≠ x) (hk : ∀ g, g ≠ x → w'.heap[g]? = w.heap[g]?) : FileAt w' S fb f An cn As cs :=
  ⟨(hk _ hne).trans h.head, h.now.keepX hx h5 hk, h.safe.keepX hx h5 hk, h.sf, h.sn, h.ss, h.ne, h.ln, h.ls⟩
theorem PieceAt.keepX {S : Nat → Prop} {lo at_ : Int} {v : Value} (h : PieceAt w S lo at_ v) (hx : Odd w x t) (h5 : 5 ≠ t) (hk : ∀ g, g ≠ x → w'.heap[g]? = w.heap[g]?) : PieceAt w' S lo at_ v := by
  obtain ⟨h0, h1, h2, h3⟩ := h
  refine ⟨h0, h1, h2, ?_⟩
  rcases h3 with h3 | ⟨a, l, c, e, hr, hS, hl⟩
  · exact .inl h3
  · exact .inr ⟨a, l, c, e, hr.keepX hx h5 hk, hS, hl⟩
theorem PendAt.keepX {S : Nat → Prop} {lo : Int} {Ap : Option Addr} {np cp : Nat} {ps : List (Int × Value)} (h : PendAt w S lo Ap np cp ps) (hx : Odd w x t) (h74 : 74 ≠ t) (h5 : 5 ≠ t) (hk : ∀ g, g ≠ x → w'.heap[g]? = w.heap[g]?) : PendAt w' S lo Ap np cp ps :=
  ⟨row_keepX h.row hx h74 hk, h.len, fun p hp => (h.all p hp).keepX hx h5 hk, h.sp⟩
end
section
variable {w w' : World} {db mb : Nat} {d : Dv} {lo : Int} {N : Nat} {S : Nat → Prop} {F : Option Nat} {Ap : Option Addr} {np cp : Nat} {ps : List (Int × Value)}
def Dv.row (d : Dv) (mb : Nat) (Ap : Option Addr) (np cp : Nat) : Array Value := #[.int .i64 d.room, .int .i64 d.chg, .int .i64 d.left, .bool d.armed, .bool d.down, .map (some mb), .slice Ap np cp]
theorem Dk.odd (h : Dk w db mb d lo N S F Ap np cp ps) : Odd w db 59 := cells_odd h.head (by simp)
theorem FM.heap {w : World} {mb : Nat} {F : Option Nat} (h : FM w mb F) : ∃ es c, w.heap[mb]? = some (.map es c) := by
  obtain ⟨es, clock, h0, _⟩ := h
  exact ⟨es, clock, h0⟩
theorem FM.ne {w : World} {mb : Nat} {F : Option Nat} (h : FM w mb F) {x : Nat} {cs : Array Value} {t : TypeId} {z : Nat × Nat} (hx : w.heap[x]? = some (.cells cs t z)) : mb ≠ x := by
  obtain ⟨es, c, h0⟩ := h.heap
  rintro rfl
  rw [hx] at h0
  injection h0 with h0
  cases h0
theorem ty_ne {w : World} {x y : Nat} {cs cs' : Array Value} {t t' : TypeId} {z z' : Nat × Nat} (hx : w.heap[x]? = some (.cells cs t z)) (hy : w.heap[y]? = some (.cells cs' t' z')) (ht : t ≠ t') : x ≠ y := by
  rintro rfl
  rw [hx] at hy
  injection hy with hy
  injection hy with _ hy _
  exact ht hy
/-- The disk's struct is set; the other blocks stay. -/
theorem Dk.setD (h : Dk w db mb d lo N S F Ap np cp ps) {d' : Dv} {N' : Nat} (hs : w.heap.size ≤ w'.heap.size) (hk : ∀ g, g ≠ db → w'.heap[g]? = w.heap[g]?) (he : w'.heap[db]? = some (.cells (d'.row mb Ap np cp) 59 (0, 0)))
    (hf : d'.f = d.f) (hr : d'.room = d.room) (hN : N ≤ N') (h1 : 0 ≤ d'.chg ∧ d'.chg ≤ N') (h2 : -(N' : Int) ≤ d'.left ∧ d'.left ≤ 9223372036854775807) : Dk w' db mb d' lo N' S F Ap np cp ps := by
  have ho := h.odd
  refine ⟨he, h.map.same (hk _ (h.map.ne h.head)), ?_, h.pend.keepX ho (by decide) (by decide) hk, Nat.le_trans h.pn hN, h.sd, h.sm, fun g hg => Nat.lt_of_lt_of_le (h.lt g hg) hs, by rw [hr]; exact h.rm, h1, h2⟩
  rw [hf]
  rcases h.file with h3 | ⟨fb, f, An, cn, As, cs, e1, e2, h3, h3'⟩
  · exact .inl h3
  · exact .inr ⟨fb, f, An, cn, As, cs, e1, e2, h3.keepX ho (by decide) (ty_ne h3.head h.head (by decide)) hk, h3'⟩
end
end Go.Proofs.Ytlplhllcohoeaaa
