/-
  A map from numbers to bools in memory, as a set of numbers: look-up, store of true, delete, clear. No program in sight but its type numbers' laws, which are premises.
-/
import Derived.Test.YteceephenfmdoaaRA
import Derived.Maps.OwnSet
import Derived.Maps.Views
import Derived.WalkKit
import Derived.Handy
import Derived.MapFrom
namespace Go.Proofs.Yteceephenfmdoaa
open Go.RowKit Go.Maps Go.ChangeMaps Go.MapKept
theorem plainElem_bool_inv {H : Type} {P : Program} {e : TypeId} (he : P.underlying e = some .bool) {v : Value} {z : DataW H × List MemPlace} (h : plainElem P e v = some z) : ∃ x, v = .bool x ∧ z = (.lit (.bool x), []) := by
  unfold plainElem at h
  rw [he] at h
  cases v <;> simp at h
  exact ⟨_, rfl, h.symm⟩
theorem I64.wf {k : Int} (h : I64 k) : (Lit.int .i64 k).wf = true := WalkArith.wf_i64 h
def upd (u : Int → Bool) (k : Int) (x : Bool) : Int → Bool := fun j => if j = k then x else u j
theorem upd_same (u : Int → Bool) (k : Int) (x : Bool) : upd u k x k = x := by simp [upd]
theorem upd_other (u : Int → Bool) {k j : Int} (x : Bool) (h : j ≠ k) : upd u k x j = u j := by simp [upd, h]
/-- What the program's table says of the map's types. -/
structure MapTy (P : Program) (t k e : TypeId) : Prop where
  tm : P.underlying t = some (.map k e)
  tk : P.underlying k = some (.int .i64)
  te : P.underlying e = some .bool
  tz : ∀ w, (zeroValue e).run P w = .ok (.bool false) w
/-- Block b is a map of at most n entries that holds true just at the numbers of u. -/
def SetM (w : World) (P : Program) (k e : TypeId) (b n : Nat) (u : Int → Bool) : Prop :=
  ∃ D : DataW Unit, w.ownsMap P k (plainElem P e) b n D ∧ ∀ j, I64 j → D.atKey (.int .i64 j) (.lit (.bool false)) = .lit (.bool (u j))
section
variable {P : Program} {t k e : TypeId} {w : World} {b n : Nat} {u : Int → Bool}
theorem SetM.lookup (h : SetM w P k e b n u) (T : MapTy P t k e) {j : Int} (hj : I64 j) : (Instr.lookup t (.map (some b)) (.int .i64 j) false).run P w = .ok (.bool (u j)) w := by
  obtain ⟨D, hown, hu⟩ := h
  obtain ⟨v, ps, hrun, hv⟩ := hown.lookup (int_keyed T.tk) T.tm (T.tz w) (plainElem_bool T.te false) (keyOf_int_mk T.tk hj.wf)
  obtain ⟨x, rfl, hx⟩ := plainElem_bool_inv T.te hv
  simp only [Prod.mk.injEq] at hx
  have := (hu j hj).symm.trans hx.1
  injection this with h1
  injection h1 with h2
  rw [hrun, h2]
theorem SetM.store (h : SetM w P k e b n u) (T : MapTy P t k e) (hn : n < maxLen) {j : Int} (hj : I64 j) (x : Bool) :
    ∃ w', (Instr.mapUpdate t (.map (some b)) (.int .i64 j) (.bool x)).run P w = .ok () w' ∧ SetM w' P k e b (n+1) (upd u j x) ∧ w.grownBy w' (some b) := by
  obtain ⟨D, hown, hu⟩ := h
  obtain ⟨w', hrun, hown', hg⟩ := hown.update (int_keyed T.tk) T.tm hn (keyOf_int_mk T.tk hj.wf) (plainElem_bool T.te x)
  refine ⟨w', hrun, ⟨_, hown', fun i hi => ?_⟩, hg⟩
  by_cases hij : i = j
  · subst hij
    rw [upd_same, atKey_put_same hown.isMap (by simp [WideAt.IsKeyLit])]
  · rw [upd_other _ _ hij, atKey_put_other (by intro hh; injection hh with _ h2; exact hij h2)]
    exact hu i hi
theorem SetM.drop (h : SetM w P k e b n u) (T : MapTy P t k e) {j : Int} (hj : I64 j) (ty : TypeId) :
    ∃ w', (Builtin.delete_ #[t, k] ty #[.map (some b), .int .i64 j]).run P w = .ok (.tuple #[]) w' ∧ SetM w' P k e b n (upd u j false) ∧ w.grownBy w' (some b) := by
  obtain ⟨D, hown, hu⟩ := h
  obtain ⟨w', hrun, hown', hg⟩ := hown.drop (int_keyed T.tk) T.tm (keyOf_int_mk T.tk hj.wf) ty
  refine ⟨w', hrun, ⟨_, hown', fun i hi => ?_⟩, hg.grown⟩
  by_cases hij : i = j
  · subst hij
    rw [upd_same, atKey_del_same]
  · rw [upd_other _ _ hij, atKey_del_other (by intro hh; injection hh with _ h2; exact hij h2)]
    exact hu i hi
theorem SetM.made (w : World) (P : Program) (k e : TypeId) : SetM (w.alloc (.map #[] 0)) P k e w.heap.size 0 (fun _ => false) :=
  ⟨.map [], World.ownsMap_made _ _ _ _, fun j _ => by simp [DataW.atKey]⟩
theorem SetM.kept {w' : World} {row : Option Nat} (h : SetM w P k e b n u) (hg : w.grownBy w' row) (hne : some b ≠ row) : SetM w' P k e b n u := by
  obtain ⟨D, hown, hu⟩ := h
  exact ⟨D, hown.kept hg hne, hu⟩
theorem SetM.lt (h : SetM w P k e b n u) : b < w.heap.size := by obtain ⟨D, hown, _⟩ := h; exact hown.lt
theorem SetM.mono (h : SetM w P k e b n u) {n' : Nat} (hn : n ≤ n') : SetM w P k e b n' u := by obtain ⟨D, hown, hu⟩ := h; exact ⟨D, hown.mono hn, hu⟩
theorem SetM.setCell (h : SetM w P k e b n u) {a : Addr} (ha : b ≠ a.block) (v : Value) : SetM (w.setCell a v) P k e b n u := by obtain ⟨D, hown, hu⟩ := h; exact ⟨D, hown.setCell ha v, hu⟩
theorem SetM.empty (h : SetM w P k e b n u) (T : MapTy P t k e) (ty : TypeId) :
    ∃ w', (Builtin.clear_ #[t] ty #[.map (some b)]).run P w = .ok (.tuple #[]) w' ∧ SetM w' P k e b n (fun _ => false) ∧ w.grownBy w' (some b) := by
  obtain ⟨D, ⟨es, clock, hb, F, hs, rfl⟩, hu⟩ := h
  have hrun : ∃ c', (Builtin.clear_ #[t] ty #[.map (some b)]).run P w = .ok (.tuple #[]) (setBlock w b (.map #[] c')) := by
    refine ⟨clock, ?_⟩
    simp [Builtin.clear_, run_underlying T.tm, Go.MapKept.run_getObj_map hb, Go.MapKept.run_setObj_map _ hb, Result.andThen]
    rfl
  obtain ⟨c', hrun⟩ := hrun
  refine ⟨_, hrun, ⟨.map [], ⟨#[], c', heap_setBlock_same hb _, ⟨by simp, stamped_empty c', by simp⟩, by simp, rfl⟩, fun j _ => by simp [DataW.atKey]⟩, ⟨rfl, rfl, rfl, by simp [setBlock], fun i _ hi => heap_setBlock_other hb _ (fun e => hi (by rw [e]))⟩⟩
end
end Go.Proofs.Yteceephenfmdoaa
