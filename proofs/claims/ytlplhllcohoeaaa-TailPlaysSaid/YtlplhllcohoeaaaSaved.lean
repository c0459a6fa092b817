/-
  The disk in memory where a file's safe bytes are set; the rows that come up. No walk.
-/
import Derived.Test.YtlplhllcohoeaaaLoad
namespace Go.Proofs.Ytlplhllcohoeaaa
open Go.RowKit
theorem fr_new {w w1 : World} {An : Option Addr} {g : Nat} (hb : Below w.heap.size w w1) (hg : w.heap.size ≤ g) : Fr w w1 (inA An) (inA (some ⟨g, 0, none⟩)) :=
  ⟨hb.os, hb.tape, hb.output, hb.size, fun x hx _ => ⟨hb.block x hx, fun h => by injection h with h; simp only at h; omega⟩⟩
section
variable {w w' : World} {db mb : Nat} {d : Dv} {lo : Int} {N : Nat} {S : Nat → Prop} {F : Option Nat} {Ap : Option Addr} {np cp : Nat} {ps : List (Int × Value)}
/-- The file's safe bytes are set to a row that came up. -/
theorem Dk.saved {fb : Nat} (h : Dk w db mb d lo N S (some fb) Ap np cp ps) {f : Fl} {An : Option Addr} {cn : Nat} {As : Option Addr} {cs : Nat} (hf : FileAt w S fb f An cn As cs) (hap : ∀ p ∈ ps, Apart An p.2)
    {w1 : World} {g n' c' : Nat} {l' : List Int} (hb : Below w.heap.size w w1) (ho : OwnB w1 w.heap.size (some ⟨g, 0, none⟩) n' c' l') (hl : l'.length ≤ 1099511627776) (w2 : World) (hw2 : w2 = (w1.setCell ⟨fb, 1, none⟩ (.slice (some ⟨g, 0, none⟩) n' c')).setCell ⟨fb, 2, none⟩ (.bool true)) :
    Dk w2 db mb { d with f := some ⟨f.now, l', true⟩ } lo N (Sx S w w2) (some fb) Ap np cp ps ∧ Only w w2 S := by
  have hfb := h.lt _ hf.sf
  have hO : Only w w2 (fun g => g = fb) := by
    subst hw2
    exact ((Only.of_below hb).trans (Only.of_set w1 ⟨fb, 1, none⟩ _)).trans (Only.of_set _ ⟨fb, 2, none⟩ _)
  have hOS : Only w w2 S := hO.mono fun g _ e => by rw [e]; exact hf.sf
  have hsz := hO.size
  have hS : ∀ g, S g → Sx S w w2 g := fun g hg => .inl hg
  obtain ⟨cur, hcur, hg⟩ := own_cells ho
  have hglt := (Array.getElem?_eq_some_iff.1 hcur).1
  have hs2 : w2.heap.size = w1.heap.size := by subst hw2; simp
  have hne : ∀ x t cs, w.heap[x]? = some (.cells cs t (0, 0)) → t ≠ 65 → ¬ x = fb := fun x t cs hx ht e => ty_ne hx hf.head ht e
  have hmb : ¬ mb = fb := h.map.ne hf.head
  have hlen := ho.1
  refine ⟨⟨?_, h.map.same (hO.rest _ h.map.lt hmb), .inr ⟨fb, _, An, cn, some ⟨g, 0, none⟩, c', rfl, rfl, ⟨?_, ⟨hf.now.1, row_keepP hf.now.2 hO ?_⟩, ?_, hS _ hf.sf, fun a e => hS _ (hf.sn a e), fun a e => by cases e; exact .inr ⟨hg, by show g < _; omega⟩, fun a b e1 e2 => by cases e2; have := h.lt _ (hf.sn a e1); show a.block ≠ g; omega, hf.ln, hl⟩, hap⟩, ?_, h.pn, hS _ h.sd, hS _ h.sm, Sx.lt h.lt hsz, h.rm, h.cg, h.lf⟩, hOS⟩
  · rw [hO.rest _ (h.lt _ h.sd) (hne _ 59 _ h.head (by decide))]; exact h.head
  · have h1 : w1.heap[fb]? = some (.cells #[.slice An f.now.length cn, .slice As f.safe.length cs, .bool f.sure] 65 (0, 0)) := (hb.block _ hfb).trans hf.head
    subst hw2
    rw [heap_setCell_same _ _ _ _ _ _ (heap_setCell_same _ _ _ _ _ _ h1)]
    subst hlen
    rfl
  · intro a e
    subst e
    obtain ⟨cur, hc⟩ := own_ty hf.now
    exact hne _ 5 _ hc (by decide)
  · subst hw2
    have h2 : ¬ g = fb := by omega
    rw [hlen]
    exact ⟨hlen, row_keepP (row_keepP (OwnB.mono ho (Nat.zero_le _)).2 (Only.of_set w1 _ _) (fun a e hx => by cases e; exact h2 hx)) (Only.of_set _ _ _) (fun a e hx => by cases e; exact h2 hx)⟩
  · refine h.pend.keepP hO hS (fun a e => ?_) (fun p hp a n c hv hX => ?_)
    · subst e
      obtain ⟨cur, hc⟩ := row_ty h.pend.row
      exact hne _ 74 _ hc (by decide)
    · obtain ⟨cur, hc⟩ := (h.pend.all p hp).ty hv
      exact hne _ 5 _ hc (by decide) hX
end
end Go.Proofs.Ytlplhllcohoeaaa
