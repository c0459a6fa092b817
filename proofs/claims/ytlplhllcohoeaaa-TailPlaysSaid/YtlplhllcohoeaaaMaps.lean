/-
  The disk's map from names to files in memory, where it holds no file or the one of the name tail: look-up, store, delete, length, range. No walk.
-/
import Derived.Test.YtlplhllcohoeaaaRows
import Derived.Test.YtlplhllcohoeaaaBase
import Derived.Maps.OwnSet
import Derived.Maps.RangeWalk
import Derived.Maps.Views
import Derived.StringKeys
import Derived.MapFrom
namespace Go.Proofs.Ytlplhllcohoeaaa
open Go.RowKit Go.Maps Go.ChangeMaps Go.MapKept
/-- How a pointer to a file reads: as its block's number, -1: nil. -/
def Rp : Value → Option (DataW Unit × List MemPlace)
  | .pointer (some ⟨g, 0, none⟩) => some (.lit (.int .i64 g), [])
  | .pointer none => some (.lit (.int .i64 (-1)), [])
  | _ => none
def tl : ByteArray := ⟨#[116, 97, 105, 108]⟩
def kt : Lit := .string tl.data.toList
def ptr (F : Option Nat) : Value := .pointer (F.map fun g => ⟨g, 0, none⟩)
def litF : Option Nat → DataW Unit
  | none => .lit (.int .i64 (-1))
  | some g => .lit (.int .i64 g)
theorem rp_ptr (F : Option Nat) : Rp (ptr F) = some (litF F, []) := by cases F <;> rfl
theorem rp_inv {v : Value} {F : Option Nat} {ps : List MemPlace} (h : Rp v = some (litF F, ps)) : v = ptr F := by
  unfold Rp at h
  split at h
  · rename_i g
    simp only [Option.some.injEq, Prod.mk.injEq] at h
    cases F with
    | none => have := h.1; unfold litF at this; injection this with h1; injection h1 with _ h2; omega
    | some g' =>
      have := h.1; unfold litF at this; injection this with h1; injection h1 with _ h2
      have : g = g' := by omega
      subst this; rfl
  · simp only [Option.some.injEq, Prod.mk.injEq] at h
    cases F with
    | none => rfl
    | some g' => have := h.1; unfold litF at this; injection this with h1; injection h1 with _ h2; omega
  · cases h
theorem tm : Try.prog.underlying 56 = some (.map 9 62) := Try.underlying56
theorem tk : Try.prog.underlying 9 = some .string := Try.underlying9
theorem tz (w : World) : (zeroValue 62).run Try.prog w = .ok (ptr none) w := by kernel_rfl
theorem kk : keyOf Try.prog 9 (.string tl) = some kt := Go.WideMaps.keyOf_string_mk tk (by decide)
def mapD : Option Nat → DataW Unit
  | none => .map []
  | some g => .map [(kt, .lit (.int .i64 g))]
/-- The disk's map. -/
def FM (w : World) (mb : Nat) (F : Option Nat) : Prop := w.ownsMap Try.prog 9 Rp mb 1 (mapD F)
theorem FM.lt {w : World} {mb : Nat} {F : Option Nat} (h : FM w mb F) : mb < w.heap.size := World.ownsMap.lt h
theorem FM.made (w : World) : FM (w.alloc (.map #[] 0)) w.heap.size none := (World.ownsMap_made w Try.prog 9 Rp).mono (Nat.zero_le _)
theorem FM.kept {w w' : World} {mb : Nat} {F : Option Nat} {row : Option Nat} (h : FM w mb F) (hg : w.grownBy w' row) (hne : some mb ≠ row) : FM w' mb F := World.ownsMap.kept h hg hne
theorem FM.same {w w' : World} {mb : Nat} {F : Option Nat} (h : FM w mb F) (hb : w'.heap[mb]? = w.heap[mb]?) : FM w' mb F := by
  obtain ⟨es, clock, h0, r⟩ := h
  exact ⟨es, clock, hb.trans h0, r⟩
theorem at_map (F : Option Nat) : (mapD F).atKey kt (litF none) = litF F := by cases F <;> rfl
theorem FM.look {w : World} {mb : Nat} {F : Option Nat} (h : FM w mb F) : (Instr.lookup 56 (.map (some mb)) (.string tl) false).run Try.prog w = .ok (ptr F) w := by
  obtain ⟨v, ps, hrun, hv⟩ := World.ownsMap.lookup h (string_keyed tk) tm (tz w) (rp_ptr none) kk
  rw [at_map] at hv
  rw [hrun, rp_inv hv]
theorem FM.len {w : World} {mb : Nat} {F : Option Nat} (h : FM w mb F) (ty : TypeId) : (Builtin.len_ #[56] ty #[.map (some mb)]).run Try.prog w = .ok (.int .i64 (if F.isSome then 1 else 0)) w := by
  have := World.ownsMap.len h tm ty
  cases F <;> simpa [mapD, Maps.size] using this
theorem FM.tight {w : World} {mb n : Nat} {F : Option Nat} (h : w.ownsMap Try.prog 9 Rp mb n (mapD F)) : FM w mb F := by
  obtain ⟨es, clock, h0, F0, hs, hD⟩ := h
  refine ⟨es, clock, h0, F0, ?_, hD⟩
  have hl : es.size = ((es.toList.map (Go.WideElems.rg Try.prog 9 Rp)).foldr DataW.insert []).length := by rw [length_sorted]; simp
  have hl2 : es.size ≤ 1 := by
    cases F with
    | none => unfold mapD at hD; injection hD with hD; rw [← hD] at hl; rw [hl]; exact Nat.zero_le _
    | some g => unfold mapD at hD; injection hD with hD; rw [← hD] at hl; exact Nat.le_of_eq hl
  exact hl2
theorem FM.put {w : World} {mb : Nat} {F : Option Nat} (h : FM w mb F) (g : Nat) : ∃ w', (Instr.mapUpdate 56 (.map (some mb)) (.string tl) (ptr (some g))).run Try.prog w = .ok () w' ∧ FM w' mb (some g) ∧ w.grownBy w' (some mb) := by
  obtain ⟨w', hrun, ho, hg⟩ := World.ownsMap.update h (string_keyed tk) tm (by unfold maxLen; omega) kk (rp_ptr (some g))
  refine ⟨w', hrun, FM.tight (n := 2) ?_, hg⟩
  have e : (mapD F).put kt (litF (some g)) = mapD (some g) := by cases F <;> rfl
  rw [e] at ho
  exact ho
theorem FM.drop {w : World} {mb : Nat} {F : Option Nat} (h : FM w mb F) (ty : TypeId) : ∃ w', (Builtin.delete_ #[56, 9] ty #[.map (some mb), .string tl]).run Try.prog w = .ok (.tuple #[]) w' ∧ FM w' mb none ∧ w.grownBy w' (some mb) := by
  obtain ⟨w', hrun, ho, hg⟩ := World.ownsMap.drop h (string_keyed tk) tm kk ty
  refine ⟨w', hrun, FM.tight (n := 1) ?_, hg.grown⟩
  have e : (mapD F).del kt = mapD none := by cases F <;> rfl
  rw [e] at ho
  exact ho
/-- A range over the map under way: fresh, or behind its one file. -/
def RM (w : World) (mb r : Nat) (F : Option Nat) (fr : Bool) : Prop :=
  ∃ left cnt, w.ranges Try.prog 9 Rp mb r 1 (mapD F) left cnt ∧ (fr = true → left = Maps.has (mapD F) ∧ cnt = Maps.size (mapD F)) ∧ (fr = false → cnt = 0)
theorem FM.range {w : World} {mb : Nat} {F : Option Nat} (h : FM w mb F) :
    ∃ w', (Instr.range 56 (.map (some mb))).run Try.prog w = .ok (.pointer (some ⟨w.heap.size, 0, none⟩)) w' ∧ RM w' mb w.heap.size F true ∧ w.grownBy w' none ∧ w'.heap.size = w.heap.size + 1 := by
  obtain ⟨w', h1, h2, h3, h4⟩ := World.ownsMap.range h (string_keyed tk) tm
  exact ⟨w', h1, ⟨_, _, h2, fun _ => ⟨rfl, rfl⟩, (fun h => absurd h (by decide))⟩, h3, h4⟩
theorem RM.fm {w : World} {mb r : Nat} {F : Option Nat} {fr : Bool} (h : RM w mb r F fr) : FM w mb F := by
  obtain ⟨left, cnt, h, _⟩ := h
  exact World.ranges.owns h
theorem RM.kept {w w' : World} {mb r : Nat} {F : Option Nat} {fr : Bool} {row : Option Nat} (h : RM w mb r F fr) (hg : w.grownBy w' row) (h1 : some mb ≠ row) (h2 : some r ≠ row) : RM w' mb r F fr := by
  obtain ⟨left, cnt, h, k⟩ := h
  exact ⟨left, cnt, World.ranges.kept h hg h1 h2, k⟩
theorem RM.done {w : World} {mb r : Nat} {F : Option Nat} {fr : Bool} (h : RM w mb r F fr) (hd : fr = false ∨ F = none) (ty : TypeId) : (Instr.next (.pointer (some ⟨r, 0, none⟩)) false ty).run Try.prog w = .ok (.tuple #[.bool false]) w := by
  obtain ⟨left, cnt, h, h1, h2⟩ := h
  have hc : cnt = 0 := by
    rcases hd with rfl | rfl
    · exact h2 rfl
    · cases fr
      · exact h2 rfl
      · rw [(h1 rfl).2]; rfl
  rcases World.ranges.next h (string_keyed tk) ty with ⟨_, _, hrun⟩ | ⟨_, _, _, _, _, cnt', _, _, _, _, _, _, hlt, _⟩
  · exact hrun
  · omega
theorem tl_of {s : ByteArray} (h : s.data.toList = tl.data.toList) : s = tl := by
  cases s with
  | mk d => congr 1; exact Array.toList_inj.1 h
theorem RM.one {w : World} {mb r g : Nat} (h : RM w mb r (some g) true) (ty : TypeId) :
    ∃ w', (Instr.next (.pointer (some ⟨r, 0, none⟩)) false ty).run Try.prog w = .ok (.tuple #[.bool true, .string tl, ptr (some g)]) w' ∧ RM w' mb r (some g) false ∧ w.grownBy w' (some r) ∧ w'.heap.size = w.heap.size ∧
      (Instr.entry (.pointer (some ⟨r, 0, none⟩))).run Try.prog w' = .ok (.tuple #[.string tl, ptr (some g)]) w' := by
  obtain ⟨left, cnt, h, h1, _⟩ := h
  obtain ⟨hl, hc⟩ := h1 rfl
  have hc1 : cnt = 1 := hc
  rcases World.ranges.next h (string_keyed tk) ty with ⟨h0, _, _⟩ | ⟨key, v, kl, y, w', cnt', hkey, hlk, hv, hat, hrun, hrg, hlt, hgr, hsz, hen⟩
  · omega
  · obtain ⟨s, rfl, rfl, _⟩ := Go.WideMaps.string_of_keyOf tk hkey
    rw [hl] at hlk
    have hs : s = tl := by
      have h3 : Lit.sameKey kt (.string s.data.toList) = true := by simpa [Maps.has, mapD] using hlk
      have h4 := WideAt.sameKey_eq h3
      unfold kt at h4
      injection h4 with h5
      exact tl_of h5.symm
    subst hs
    have hy := hat (litF none)
    have e : (mapD (some g)).atKey (.string tl.data.toList) (litF none) = litF (some g) := rfl
    rw [e] at hy
    obtain ⟨y1, y2⟩ := y
    simp only at hy
    subst hy
    obtain rfl := rp_inv hv
    exact ⟨w', hrun, ⟨_, cnt', hrg, (fun h => absurd h (by decide)), fun _ => by omega⟩, hgr, hsz, hen⟩
end Go.Proofs.Ytlplhllcohoeaaa
