/-
  The map of the names that were kept at a loss of power: empty, or the one name with true; a file that is deleted in the range. No walk.
-/
import Derived.Test.YtlplhllcohoeaaaSyncf
namespace Go.Proofs.Ytlplhllcohoeaaa
open Go.RowKit Go.Maps Go.ChangeMaps Go.MapKept
theorem plainElem_bool_inv {H : Type} {P : Program} {e : TypeId} (he : P.underlying e = some .bool) {v : Value} {z : DataW H × List MemPlace} (h : plainElem P e v = some z) : ∃ x, v = .bool x ∧ z = (.lit (.bool x), []) := by
  unfold plainElem at h
  rw [he] at h
  cases v <;> simp at h
  exact ⟨_, rfl, h.symm⟩
theorem tm78 : Try.prog.underlying 78 = some (.map 9 4) := Try.underlying78
theorem tz4 (w : World) : (zeroValue 4).run Try.prog w = .ok (.bool false) w := by kernel_rfl
def mapK : Bool → DataW Unit
  | false => .map []
  | true => .map [(kt, .lit (.bool true))]
/-- The map of what was kept. -/
def KM (w : World) (kb : Nat) (b : Bool) : Prop := w.ownsMap Try.prog 9 (plainElem Try.prog 4) kb 1 (mapK b)
theorem KM.lt {w : World} {kb : Nat} {b : Bool} (h : KM w kb b) : kb < w.heap.size := World.ownsMap.lt h
theorem KM.made (w : World) : KM (w.alloc (.map #[] 0)) w.heap.size false := (World.ownsMap_made w Try.prog 9 (plainElem Try.prog 4)).mono (Nat.zero_le _)
theorem KM.same {w w' : World} {kb : Nat} {b : Bool} (h : KM w kb b) (hb : w'.heap[kb]? = w.heap[kb]?) : KM w' kb b := by
  obtain ⟨es, clock, h0, r⟩ := h
  exact ⟨es, clock, hb.trans h0, r⟩
theorem KM.look {w : World} {kb : Nat} {b : Bool} (h : KM w kb b) : (Instr.lookup 78 (.map (some kb)) (.string tl) false).run Try.prog w = .ok (.bool b) w := by
  obtain ⟨v, ps, hrun, hv⟩ := World.ownsMap.lookup h (string_keyed tk) tm78 (tz4 w) (plainElem_bool Try.underlying4 false) kk
  obtain ⟨x, rfl, hx⟩ := plainElem_bool_inv Try.underlying4 hv
  simp only [Prod.mk.injEq] at hx
  have e : (mapK b).atKey kt (.lit (.bool false)) = .lit (.bool b) := by cases b <;> rfl
  have h1 := e.symm.trans hx.1
  injection h1 with h1
  injection h1 with h2
  rw [hrun, ← h2]
theorem KM.tight {w : World} {kb n : Nat} {b : Bool} (h : w.ownsMap Try.prog 9 (plainElem Try.prog 4) kb n (mapK b)) : KM w kb b := by
  obtain ⟨es, clock, h0, F0, hs, hD⟩ := h
  refine ⟨es, clock, h0, F0, ?_, hD⟩
  have hl : es.size = ((es.toList.map (Go.WideElems.rg (H := Unit) Try.prog 9 (plainElem Try.prog 4))).foldr DataW.insert []).length := by rw [length_sorted]; simp
  have hl2 : es.size ≤ 1 := by
    cases b with
    | false => unfold mapK at hD; injection hD with hD; rw [← hD] at hl; rw [hl]; exact Nat.zero_le _
    | true => unfold mapK at hD; injection hD with hD; rw [← hD] at hl; exact Nat.le_of_eq hl
  exact hl2
theorem KM.put {w : World} {kb : Nat} {b : Bool} (h : KM w kb b) : ∃ w', (Instr.mapUpdate 78 (.map (some kb)) (.string tl) (.bool true)).run Try.prog w = .ok () w' ∧ KM w' kb true ∧ w.grownBy w' (some kb) := by
  obtain ⟨w', hrun, ho, hg⟩ := World.ownsMap.update h (string_keyed tk) tm78 (by unfold maxLen; omega) kk (plainElem_bool Try.underlying4 true)
  refine ⟨w', hrun, KM.tight (n := 2) ?_, hg⟩
  have e : (mapK b).put kt (.lit (.bool true)) = mapK true := by cases b <;> rfl
  rw [e] at ho
  exact ho
theorem RM.drop {w : World} {mb r g : Nat} (h : RM w mb r (some g) false) (ty : TypeId) : ∃ w', (Builtin.delete_ #[56, 9] ty #[.map (some mb), .string tl]).run Try.prog w = .ok (.tuple #[]) w' ∧ RM w' mb r none false ∧ FM w' mb none ∧ w.grownBy w' (some mb) := by
  obtain ⟨left, cnt, h, _, h2⟩ := h
  obtain ⟨w', cnt', hrun, hr, hle, ht⟩ := World.ranges.drop h (string_keyed tk) tm kk ty
  have e : (mapD (some g)).del kt = mapD none := rfl
  rw [e] at hr
  exact ⟨w', hrun, ⟨_, cnt', hr, (fun h => absurd h (by decide)), fun _ => by have := h2 rfl; omega⟩, World.ranges.owns hr, ht.grown⟩
section
variable {db mb : Nat} {d : Dv} {lo : Int} {N : Nat} {S : Nat → Prop} {F : Option Nat} {Ap : Option Addr} {np cp : Nat} {ps : List (Int × Value)}
/-- The file is deleted. -/
theorem Dk.dropped {w w2 : World} {fb : Nat} (h : Dk w db mb d lo N S (some fb) Ap np cp ps) (hm : FM w2 mb none) (hg : w.grownBy w2 (some mb)) :
    Dk w2 db mb { d with f := none } lo N S none Ap np cp ps ∧ Only w w2 S := by
  have hO : Only w w2 (fun g => g = mb) := (Only.of_grown hg).mono fun g _ e => by injection e
  have hOS : Only w w2 S := hO.mono fun g _ e => by rw [e]; exact h.sm
  have hsz := hg.size
  have hnm : ∀ x t cs, w.heap[x]? = some (.cells cs t (0, 0)) → x ≠ mb := fun x t cs hx e => h.map.ne hx e.symm
  refine ⟨⟨?_, hm, .inl ⟨rfl, rfl⟩, ?_, h.pn, h.sd, h.sm, fun g hg => Nat.lt_of_lt_of_le (h.lt g hg) hsz, h.rm, h.cg, h.lf⟩, hOS⟩
  · rw [hO.rest _ (h.lt _ h.sd) (hnm _ _ _ h.head)]; exact h.head
  · refine h.pend.keepP hO (fun g hg => hg) (fun a e => ?_) (fun p hp a n c' hv hX => ?_)
    · subst e
      obtain ⟨cur, hc⟩ := row_ty h.pend.row
      exact hnm _ _ _ hc
    · obtain ⟨cur, hc⟩ := (h.pend.all p hp).ty hv
      exact hnm _ _ _ hc hX
theorem Dk.fat' {w : World} {fb : Nat} (h : Dk w db mb d lo N S (some fb) Ap np cp ps) {f : Fl} (hdf : d.f = some f) : ∃ An cn As cs, FileAt w S fb f An cn As cs ∧ (∀ p ∈ ps, Apart An p.2) := by
  obtain ⟨f', An, cn, As, cs, q1, hf, hap⟩ := h.fat
  obtain rfl : f' = f := by rw [hdf] at q1; injection q1 with q1; exact q1.symm
  exact ⟨An, cn, As, cs, hf, hap⟩
/-- The pieces are gone, the power is on, nothing waits for its loss. -/
theorem Dk.off {w wE : World} (h : Dk w db mb d lo N S F Ap np cp ps) (hwE : wE = ((w.setCell ⟨db, 6, none⟩ (.slice none 0 0)).setCell ⟨db, 4, none⟩ (.bool false)).setCell ⟨db, 3, none⟩ (.bool false)) :
    Dk wE db mb { d with down := false, armed := false } lo N S F none 0 0 [] ∧ Fr w wE S S := by
  obtain ⟨h1, _⟩ := h.cleared
  subst hwE
  refine ⟨h1.setD (by simp) (fun g hg => ?_) ?_ rfl rfl (Nat.le_refl _) h1.cg h1.lf, ((fr_set _ h.sd).trans (fr_set _ h.sd)).trans (fr_set _ h.sd)⟩
  · rw [heap_setCell_other _ _ _ _ (by simpa using hg), heap_setCell_other _ _ _ _ (by simpa using hg)]
  · rw [heap_setCell_same _ _ _ _ _ _ (heap_setCell_same _ _ _ _ _ _ h1.head)]
    rfl
end
end Go.Proofs.Ytlplhllcohoeaaa
