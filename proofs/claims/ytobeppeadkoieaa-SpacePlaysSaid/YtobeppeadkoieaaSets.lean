/-
  A map from numbers to bools in memory, as a set of numbers: look-up, store of true, delete, clear. No program in sight but its type numbers' laws, which are premises.
-/
import Derived.Maps.OwnSet
import Derived.Maps.Views
import Derived.Maps.RangeWalk
import Derived.WalkKit
import Derived.Handy
import Derived.MapFrom
namespace Go.Proofs.Ytobeppeadkoieaa
open Go.RowKit Go.Maps Go.ChangeMaps Go.MapKept
theorem plainElem_bool_inv {H : Type} {P : Program} {e : TypeId} (he : P.underlying e = some .bool) {v : Value} {z : DataW H × List MemPlace} (h : plainElem P e v = some z) : ∃ x, v = .bool x ∧ z = (.lit (.bool x), []) := by
  unfold plainElem at h
  rw [he] at h
  cases v <;> simp at h
  exact ⟨_, rfl, h.symm⟩
/-- Numbers that a key may be. -/
def I64 (k : Int) : Prop := -9223372036854775808 ≤ k ∧ k ≤ 9223372036854775807
theorem I64.wf {k : Int} (h : I64 k) : (Lit.int .i64 k).wf = true := WalkArith.wf_i64 h
def upd (u : Int → Bool) (k : Int) (x : Bool) : Int → Bool := fun j => if j = k then x else u j
theorem upd_same (u : Int → Bool) (k : Int) (x : Bool) : upd u k x k = x := by simp [upd]
theorem upd_other (u : Int → Bool) {k j : Int} (x : Bool) (h : j ≠ k) : upd u k x j = u j := by simp [upd, h]
/-- What the program's table says of the map's types. -/
structure MapTy (P : Program) (t k e : TypeId) : Prop where
  tm : P.underlying t = some (.map k e)
  tk : P.underlying k = some (.int .i64)
  te : P.underlying e = some .bool
  tz : ∀ w, (zeroValue e).run P w = .ok (.bool false) w
/-- Block b is a map of at most n entries whose keys are the numbers of u, all with true. -/
def SetM (w : World) (P : Program) (k e : TypeId) (b n : Nat) (u : Int → Bool) : Prop :=
  ∃ D : DataW Unit, w.ownsMap P k (plainElem P e) b n D ∧ ∀ j, I64 j → match u j with | true => ∀ zd, D.atKey (.int .i64 j) zd = .lit (.bool true) | false => ∀ zd, D.atKey (.int .i64 j) zd = zd
section
variable {P : Program} {t k e : TypeId} {w : World} {b n : Nat} {u : Int → Bool}
theorem SetM.lookup (h : SetM w P k e b n u) (T : MapTy P t k e) {j : Int} (hj : I64 j) : (Instr.lookup t (.map (some b)) (.int .i64 j) false).run P w = .ok (.bool (u j)) w := by
  obtain ⟨D, hown, hu⟩ := h
  obtain ⟨v, ps, hrun, hv⟩ := hown.lookup (int_keyed T.tk) T.tm (T.tz w) (plainElem_bool T.te false) (keyOf_int_mk T.tk hj.wf)
  obtain ⟨x, rfl, hx⟩ := plainElem_bool_inv T.te hv
  simp only [Prod.mk.injEq] at hx
  have hq := hu j hj
  cases hc : u j with
  | true =>
    rw [hc] at hq
    have := (hq _).symm.trans hx.1
    injection this with h1
    injection h1 with h2
    rw [hrun, ← h2]
  | false =>
    rw [hc] at hq
    have := (hq _).symm.trans hx.1
    injection this with h1
    injection h1 with h2
    rw [hrun, ← h2]
theorem SetM.store (h : SetM w P k e b n u) (T : MapTy P t k e) (hn : n < maxLen) {j : Int} (hj : I64 j) :
    ∃ w', (Instr.mapUpdate t (.map (some b)) (.int .i64 j) (.bool true)).run P w = .ok () w' ∧ SetM w' P k e b (n+1) (upd u j true) ∧ w.grownBy w' (some b) := by
  obtain ⟨D, hown, hu⟩ := h
  obtain ⟨w', hrun, hown', hg⟩ := hown.update (int_keyed T.tk) T.tm hn (keyOf_int_mk T.tk hj.wf) (plainElem_bool T.te true)
  refine ⟨w', hrun, ⟨_, hown', fun i hi => ?_⟩, hg⟩
  by_cases hij : i = j
  · subst hij
    rw [upd_same]
    exact fun zd => by rw [atKey_put_same hown.isMap (by simp [WideAt.IsKeyLit])]
  · rw [upd_other _ _ hij]
    have e : ∀ zd, (D.put (.int .i64 j) (.lit (.bool true))).atKey (.int .i64 i) zd = D.atKey (.int .i64 i) zd := fun zd => by rw [atKey_put_other (by intro hh; injection hh with _ h2; exact hij h2)]
    have hq := hu i hi
    cases hc : u i with
    | true => rw [hc] at hq; exact fun zd => (e zd).trans (hq zd)
    | false => rw [hc] at hq; exact fun zd => (e zd).trans (hq zd)
theorem SetM.drop (h : SetM w P k e b n u) (T : MapTy P t k e) {j : Int} (hj : I64 j) (ty : TypeId) :
    ∃ w', (Builtin.delete_ #[t, k] ty #[.map (some b), .int .i64 j]).run P w = .ok (.tuple #[]) w' ∧ SetM w' P k e b n (upd u j false) ∧ w.grownBy w' (some b) := by
  obtain ⟨D, hown, hu⟩ := h
  obtain ⟨w', hrun, hown', hg⟩ := hown.drop (int_keyed T.tk) T.tm (keyOf_int_mk T.tk hj.wf) ty
  refine ⟨w', hrun, ⟨_, hown', fun i hi => ?_⟩, hg.grown⟩
  by_cases hij : i = j
  · subst hij
    rw [upd_same]
    exact fun zd => by rw [atKey_del_same]
  · rw [upd_other _ _ hij]
    have hq := hu i hi
    cases hc : u i with
    | true => rw [hc] at hq; exact fun zd => by rw [atKey_del_other (by intro hh; injection hh with _ h2; exact hij h2)]; exact hq zd
    | false => rw [hc] at hq; exact fun zd => by rw [atKey_del_other (by intro hh; injection hh with _ h2; exact hij h2)]; exact hq zd
theorem SetM.made (w : World) (P : Program) (k e : TypeId) : SetM (w.alloc (.map #[] 0)) P k e w.heap.size 0 (fun _ => false) :=
  ⟨.map [], World.ownsMap_made _ _ _ _, fun j _ zd => by simp [DataW.atKey]⟩
theorem SetM.kept {w' : World} {row : Option Nat} (h : SetM w P k e b n u) (hg : w.grownBy w' row) (hne : some b ≠ row) : SetM w' P k e b n u := by
  obtain ⟨D, hown, hu⟩ := h
  exact ⟨D, hown.kept hg hne, hu⟩
theorem SetM.lt (h : SetM w P k e b n u) : b < w.heap.size := by obtain ⟨D, hown, _⟩ := h; exact hown.lt
theorem SetM.mono (h : SetM w P k e b n u) {n' : Nat} (hn : n ≤ n') : SetM w P k e b n' u := by obtain ⟨D, hown, hu⟩ := h; exact ⟨D, hown.mono hn, hu⟩
theorem SetM.setCell (h : SetM w P k e b n u) {a : Addr} (ha : b ≠ a.block) (v : Value) : SetM (w.setCell a v) P k e b n u := by obtain ⟨D, hown, hu⟩ := h; exact ⟨D, hown.setCell ha v, hu⟩
theorem SetM.empty (h : SetM w P k e b n u) (T : MapTy P t k e) (ty : TypeId) :
    ∃ w', (Builtin.clear_ #[t] ty #[.map (some b)]).run P w = .ok (.tuple #[]) w' ∧ SetM w' P k e b n (fun _ => false) ∧ w.grownBy w' (some b) := by
  obtain ⟨D, ⟨es, clock, hb, F, hs, rfl⟩, hu⟩ := h
  have hrun : ∃ c', (Builtin.clear_ #[t] ty #[.map (some b)]).run P w = .ok (.tuple #[]) (setBlock w b (.map #[] c')) := by
    refine ⟨clock, ?_⟩
    simp [Builtin.clear_, run_underlying T.tm, Go.MapKept.run_getObj_map hb, Go.MapKept.run_setObj_map _ hb, Result.andThen]
    rfl
  obtain ⟨c', hrun⟩ := hrun
  refine ⟨_, hrun, ⟨.map [], ⟨#[], c', heap_setBlock_same hb _, ⟨by simp, stamped_empty c', by simp⟩, by simp, rfl⟩, fun j _ zd => by simp [DataW.atKey]⟩, ⟨rfl, rfl, rfl, by simp [setBlock], fun i _ hi => heap_setBlock_other hb _ (fun e => hi (by rw [e]))⟩⟩
theorem SetM.same {w' : World} (h : SetM w P k e b n u) (hb : w'.heap[b]? = w.heap[b]?) : SetM w' P k e b n u := by
  obtain ⟨D, ⟨es, clock, h0, r⟩, hu⟩ := h
  exact ⟨D, ⟨es, clock, hb.trans h0, r⟩, hu⟩
/-- A range over the map under way: the keys that came up so far, all different; c more come. -/
def RC (w : World) (P : Program) (k e : TypeId) (b r n : Nat) (u : Int → Bool) (L : List Int) (c : Nat) : Prop :=
  ∃ (D : DataW Unit) (left : Lit → Bool), w.ranges P k (plainElem P e) b r n D left c ∧ (∀ j, I64 j → match u j with | true => ∀ zd, D.atKey (.int .i64 j) zd = .lit (.bool true) | false => ∀ zd, D.atKey (.int .i64 j) zd = zd) ∧
    (∀ j, I64 j → (left (.int .i64 j) = true ↔ u j = true ∧ j ∉ L)) ∧ L.length + c ≤ n ∧ (∀ j ∈ L, I64 j ∧ u j = true)
theorem SetM.range (h : SetM w P k e b n u) (T : MapTy P t k e) : ∃ w', (Instr.range t (.map (some b))).run P w = .ok (.pointer (some ⟨w.heap.size, 0, none⟩)) w' ∧ (∃ c, RC w' P k e b w.heap.size n u [] c) ∧ w.grownBy w' none ∧ w'.heap.size = w.heap.size + 1 := by
  obtain ⟨D, hown, hu⟩ := h
  have hsz := hown.size_le
  obtain ⟨w', h1, h2, h3, h4⟩ := hown.range (int_keyed T.tk) T.tm
  refine ⟨w', h1, ⟨_, D, _, h2, hu, fun j hj => ?_, by simpa using hsz, fun j hj => by cases hj⟩, h3, h4⟩
  have hq := hu j hj
  cases hc : u j with
  | true => rw [hc] at hq; rw [Maps.has_true_of_atKey hq]; simp
  | false => rw [hc] at hq; rw [Maps.has_false_of_atKey hq]; simp
theorem RC.kept {w' : World} {r c : Nat} {L : List Int} {row : Option Nat} (h : RC w P k e b r n u L c) (hg : w.grownBy w' row) (h1 : some b ≠ row) (h2 : some r ≠ row) : RC w' P k e b r n u L c := by
  obtain ⟨D, left, h, k⟩ := h
  exact ⟨D, left, World.ranges.kept h hg h1 h2, k⟩
/-- The next key, or none more. -/
theorem RC.next {r c : Nat} {L : List Int} (h : RC w P k e b r n u L c) (T : MapTy P t k e) (ty : TypeId) :
    ((Instr.next (.pointer (some ⟨r, 0, none⟩)) false ty).run P w = .ok (.tuple #[.bool false]) w ∧ c = 0 ∧ ∀ j, I64 j → u j = true → j ∈ L) ∨
    ∃ k' v w' c', (Instr.next (.pointer (some ⟨r, 0, none⟩)) false ty).run P w = .ok (.tuple #[.bool true, .int .i64 k', .bool v]) w' ∧ I64 k' ∧ k' ∉ L ∧ u k' = true ∧ RC w' P k e b r n u (L ++ [k']) c' ∧ c' < c ∧ w.grownBy w' (some r) ∧ w'.heap.size = w.heap.size ∧
      (Instr.entry (.pointer (some ⟨r, 0, none⟩))).run P w' = .ok (.tuple #[.int .i64 k', .bool v]) w' := by
  obtain ⟨D, left, h, hu, hl, hn, hL⟩ := h
  rcases World.ranges.next h (int_keyed T.tk) ty with ⟨h0, hz, hrun⟩ | ⟨key, v, kl, y, w', c', hkey, hlk, hv, hat, hrun, hrg, hlt, hgr, hsz, hen⟩
  · refine .inl ⟨hrun, h0, fun j hj hs => ?_⟩
    by_cases hm : j ∈ L
    · exact hm
    · have := (hl j hj).2 ⟨hs, hm⟩
      rw [hz] at this; cases this
  · obtain ⟨x, rfl, rfl, hwx⟩ := Maps.keyOf_int_inv T.tk hkey
    obtain ⟨cv, rfl, _⟩ := plainElem_bool_inv T.te hv
    have hx : I64 x := bounds_i64 hwx
    obtain ⟨hs, hm⟩ := (hl x hx).1 hlk
    refine .inr ⟨x, cv, w', c', hrun, hx, hm, hs, ⟨D, _, hrg, hu, fun j hj => ?_, by simp; omega, fun j hj => ?_⟩, hlt, hgr, hsz, hen⟩
    · simp only [Bool.and_eq_true, Bool.not_eq_true', hl j hj, List.mem_append, List.mem_singleton, not_or]
      have hk : (Lit.int .i64 j).sameKey (.int .i64 x) = false ↔ j ≠ x := by
        constructor
        · intro h1 e; subst e; simp [Lit.sameKey] at h1
        · intro h1
          cases hb : (Lit.int .i64 j).sameKey (.int .i64 x) with
          | false => rfl
          | true => exact absurd (Lit.int.inj (WideAt.sameKey_eq hb)).2 h1
      rw [hk]
      exact ⟨fun h => ⟨h.1.1, h.1.2, h.2⟩, fun h => ⟨⟨h.1, h.2.1⟩, h.2.2⟩⟩
    · rcases List.mem_append.1 hj with hj | hj
      · exact hL j hj
      · simp at hj; subst hj; exact ⟨hx, hs⟩
end
end Go.Proofs.Ytobeppeadkoieaa
