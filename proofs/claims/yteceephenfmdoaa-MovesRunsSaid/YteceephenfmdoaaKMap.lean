/-
  A map from numbers to values in memory, as a function: look-up, store, delete, range. No program in sight but the type's laws, which are premises. The keys lie below a bound: so the map has no more entries than that, however often it is written.
-/
import Derived.Test.YteceephenfmdoaaMSets
import Derived.Maps.RangeWalk
namespace Go.Proofs.Yteceephenfmdoaa
open Go.RowKit Go.Maps Go.ChangeMaps Go.MapKept
/-- Every value reads as itself. -/
def rawR (v : Value) : Option (DataW Value × List MemPlace) := some (.held v, [])
def updV (u : Int → Option Value) (k : Int) (x : Option Value) : Int → Option Value := fun j => if j = k then x else u j
theorem updV_same (u : Int → Option Value) (k : Int) (x : Option Value) : updV u k x k = x := by simp [updV]
theorem updV_other (u : Int → Option Value) {k j : Int} (x : Option Value) (h : j ≠ k) : updV u k x j = u j := by simp [updV, h]
/-- What the program's table says of the map's types. -/
structure MapTyV (P : Program) (t k e : TypeId) (z : Value) : Prop where
  tm : P.underlying t = some (.map k e)
  tk : P.underlying k = some (.int .i64)
  tz : ∀ w, (zeroValue e).run P w = .ok z w
def AtKeys (D : DataW Value) (u : Int → Option Value) : Prop := ∀ j, I64 j → match u j with | some v => ∀ zd, D.atKey (.int .i64 j) zd = .held v | none => ∀ zd, D.atKey (.int .i64 j) zd = zd
/-- Block b is a map that holds u; its keys are numbers from 0 on below M. -/
def VM (w : World) (P : Program) (k : TypeId) (b M : Nat) (u : Int → Option Value) : Prop :=
  ∃ (n : Nat) (D : DataW Value), w.ownsMap P k rawR b n D ∧ AtKeys D u ∧ ∀ j, (u j).isSome = true → 0 ≤ j ∧ j < M
section
variable {P : Program} {t k e : TypeId} {z : Value} {w : World} {b M : Nat} {u : Int → Option Value}
theorem VM.key (h : VM w P k b M u) {j : Int} (hj : (u j).isSome = true) : 0 ≤ j ∧ j < M := by obtain ⟨n, D, _, _, hk⟩ := h; exact hk j hj
theorem VM.lookup (h : VM w P k b M u) (T : MapTyV P t k e z) {j : Int} (hj : I64 j) : (Instr.lookup t (.map (some b)) (.int .i64 j) false).run P w = .ok ((u j).getD z) w := by
  obtain ⟨n, D, hown, hu, _⟩ := h
  obtain ⟨v, ps, hrun, hv⟩ := hown.lookup (int_keyed T.tk) T.tm (T.tz w) (rfl : rawR z = some (.held z, [])) (keyOf_int_mk T.tk hj.wf)
  simp only [rawR, Option.some.injEq, Prod.mk.injEq] at hv
  have hq := hu j hj
  cases hc : u j with
  | some c =>
    rw [hc] at hq
    have e1 := DataW.held.inj ((hq (.held z)).symm.trans hv.1.symm)
    rw [hrun, ← e1]; rfl
  | none =>
    rw [hc] at hq
    have e1 := DataW.held.inj ((hq (.held z)).symm.trans hv.1.symm)
    rw [hrun, ← e1]; rfl
theorem VM.look (h : VM w P k b M u) (T : MapTyV P t k e z) {j : Int} (hj : I64 j) : (Instr.lookup t (.map (some b)) (.int .i64 j) true).run P w = .ok (.tuple #[(u j).getD z, .bool (u j).isSome]) w := by
  obtain ⟨n, D, hown, hu, _⟩ := h
  obtain ⟨v, ps, hrun, hv⟩ := hown.look_ok (int_keyed T.tk) T.tm (T.tz w) (rfl : rawR z = some (.held z, [])) (keyOf_int_mk T.tk hj.wf)
  simp only [rawR, Option.some.injEq, Prod.mk.injEq] at hv
  have hq := hu j hj
  cases hc : u j with
  | some c =>
    rw [hc] at hq
    have e1 := DataW.held.inj ((hq (.held z)).symm.trans hv.1.symm)
    rw [hrun, ← e1, Maps.has_true_of_atKey hq]; rfl
  | none =>
    rw [hc] at hq
    have e1 := DataW.held.inj ((hq (.held z)).symm.trans hv.1.symm)
    rw [hrun, ← e1, Maps.has_false_of_atKey hq]; rfl
theorem filter_ne_len (l : List Int) (hn : l.Nodup) (a : Int) : l.length ≤ (l.filter fun x => decide (x ≠ a)).length + 1 := by
  induction l with
  | nil => simp
  | cons b l ih =>
    rw [List.nodup_cons] at hn
    by_cases hb : b = a
    · subst hb
      have : (l.filter fun x => decide (x ≠ b)) = l := List.filter_eq_self.2 fun x hx => by
        simp only [decide_eq_true_eq]
        exact fun e => hn.1 (e ▸ hx)
      rw [List.filter_cons, this]
      split <;> simp
    · have := ih hn.2
      rw [List.filter_cons, if_pos (by simpa using hb)]
      simp only [List.length_cons]
      omega
theorem below_len : ∀ (M : Nat) (l : List Int), l.Nodup → (∀ x ∈ l, 0 ≤ x ∧ x < M) → l.length ≤ M := by
  intro M
  induction M with
  | zero =>
    intro l _ h
    cases l with
    | nil => simp
    | cons a l => have := h a (by simp); omega
  | succ M ih =>
    intro l hn h
    have h1 := filter_ne_len l hn M
    have h2 := ih (l.filter fun x => decide (x ≠ (M : Int))) (hn.filter _) (fun x hx => by
      rw [List.mem_filter] at hx
      have h3 := h x hx.1
      have h4 : x ≠ (M : Int) := by simpa using hx.2
      omega)
    omega
theorem VM.fit (h : VM w P k b M u) (T : P.underlying k = some (.int .i64)) : ∃ D : DataW Value, w.ownsMap P k rawR b M D ∧ AtKeys D u ∧ ∀ j, (u j).isSome = true → 0 ≤ j ∧ j < M := by
  obtain ⟨n, D, hown, hu, hk⟩ := h
  obtain ⟨es', he', hne, _⟩ := hown.entries (int_keyed T)
  obtain ⟨es, clock, hb, F, hs, hD⟩ := hown
  have hes : es' = (es.toList.map (WideElems.rg P k rawR)).foldr DataW.insert [] := by rw [he'] at hD; exact DataW.map.inj hD
  have hlen : es'.length = es.size := by rw [hes]; simp [length_sorted]
  -- each key is a number that u has
  have hkey : ∀ p ∈ es', ∃ j : Int, p.1 = .int .i64 j ∧ 0 ≤ j ∧ j < M := fun p hp => by
    rw [hes] at hp
    obtain ⟨x, hx, rfl⟩ := List.mem_map.1 (mem_sorted.1 hp)
    obtain ⟨y, hy⟩ := F.reads x hx
    rw [WideElems.rg_of hy]
    obtain ⟨j, _, e2, hw⟩ := Maps.keyOf_int_inv T (WideElems.rd_key hy)
    refine ⟨j, e2, hk j ?_⟩
    cases hc : u j with
    | some v => rfl
    | none =>
      exfalso
      have hq := hu j (bounds_i64 hw)
      rw [hc] at hq
      have h1 := Maps.has_false_of_atKey hq
      rw [he'] at h1
      have h2 : Maps.has (DataW.map es') (.int .i64 j) = true := by
        simp only [Maps.has]
        rw [List.any_eq_true]
        refine ⟨y, ?_, by rw [e2]; simp [Lit.sameKey]⟩
        rw [hes]
        exact mem_sorted.2 (List.mem_map.2 ⟨x, hx, WideElems.rg_of hy⟩)
      rw [h2] at h1
      cases h1
  refine ⟨D, ⟨es, clock, hb, F, ?_, hD⟩, hu, hk⟩
  rw [← hlen]
  have hm := below_len M (es'.map fun p => match p.1 with | .int _ j => j | _ => 0) (by
    rw [List.nodup_iff_pairwise_ne, List.pairwise_map]
    have h3 : es'.Pairwise (fun p q => p ∈ es' ∧ q ∈ es' ∧ p.1 ≠ q.1) := by
      rw [List.pairwise_iff_forall_sublist] at hne ⊢
      exact fun {a b} h => ⟨h.subset (by simp), h.subset (by simp), hne h⟩
    refine h3.imp fun {p q} h => ?_
    obtain ⟨h4, h5, h6⟩ := h
    obtain ⟨i, e1, _⟩ := hkey p h4
    obtain ⟨j, e2, _⟩ := hkey q h5
    rw [e1, e2] at h6 ⊢
    intro e
    exact h6 (by rw [show i = j from e])) (fun x hx => by
    obtain ⟨p, hp, rfl⟩ := List.mem_map.1 hx
    obtain ⟨j, e1, h7⟩ := hkey p hp
    rw [e1]
    exact h7)
  simpa using hm
theorem VM.store (h : VM w P k b M u) (T : MapTyV P t k e z) (hM : M < maxLen) {j : Int} (h0 : 0 ≤ j) (h1 : j < M) (v : Value) :
    ∃ w', (Instr.mapUpdate t (.map (some b)) (.int .i64 j) v).run P w = .ok () w' ∧ VM w' P k b M (updV u j (some v)) ∧ w.grownBy w' (some b) := by
  have hj : I64 j := by unfold maxLen at hM; unfold I64; omega
  obtain ⟨D, hown, hu, hk⟩ := h.fit T.tk
  obtain ⟨w', hrun, hown', hg⟩ := hown.update (int_keyed T.tk) T.tm hM (keyOf_int_mk T.tk hj.wf) (rfl : rawR v = some (.held v, []))
  refine ⟨w', hrun, ⟨_, _, hown', fun i hi => ?_, fun i hi => ?_⟩, hg⟩
  · by_cases hij : i = j
    · subst hij
      rw [updV_same]
      exact fun zd => by rw [atKey_put_same hown.isMap (by simp [WideAt.IsKeyLit])]
    · rw [updV_other _ _ hij]
      have e : ∀ zd, (D.put (.int .i64 j) (.held v)).atKey (.int .i64 i) zd = D.atKey (.int .i64 i) zd := fun zd => by rw [atKey_put_other (by intro hh; injection hh with _ h2; exact hij h2)]
      have hq := hu i hi
      cases hc' : u i with
      | some c' => rw [hc'] at hq; exact fun zd => (e zd).trans (hq zd)
      | none => rw [hc'] at hq; exact fun zd => (e zd).trans (hq zd)
  · by_cases hij : i = j
    · subst hij; exact ⟨h0, h1⟩
    · rw [updV_other _ _ hij] at hi; exact hk i hi
theorem VM.drop (h : VM w P k b M u) (T : MapTyV P t k e z) {j : Int} (hj : I64 j) (ty : TypeId) :
    ∃ w', (Builtin.delete_ #[t, k] ty #[.map (some b), .int .i64 j]).run P w = .ok (.tuple #[]) w' ∧ VM w' P k b M (updV u j none) ∧ w.grownBy w' (some b) := by
  obtain ⟨n, D, hown, hu, hk⟩ := h
  obtain ⟨w', hrun, hown', hg⟩ := hown.drop (int_keyed T.tk) T.tm (keyOf_int_mk T.tk hj.wf) ty
  refine ⟨w', hrun, ⟨_, _, hown', fun i hi => ?_, fun i hi => ?_⟩, hg.grown⟩
  · by_cases hij : i = j
    · subst hij
      rw [updV_same]
      exact fun zd => by rw [atKey_del_same]
    · rw [updV_other _ _ hij]
      have e : ∀ zd, (D.del (.int .i64 j)).atKey (.int .i64 i) zd = D.atKey (.int .i64 i) zd := fun zd => by rw [atKey_del_other (by intro hh; injection hh with _ h2; exact hij h2)]
      have hq := hu i hi
      cases hc' : u i with
      | some c' => rw [hc'] at hq; exact fun zd => (e zd).trans (hq zd)
      | none => rw [hc'] at hq; exact fun zd => (e zd).trans (hq zd)
  · by_cases hij : i = j
    · subst hij; rw [updV_same] at hi; cases hi
    · rw [updV_other _ _ hij] at hi; exact hk i hi
theorem VM.made (w : World) (P : Program) (k : TypeId) (M : Nat) : VM (w.alloc (.map #[] 0)) P k w.heap.size M (fun _ => none) :=
  ⟨0, .map [], World.ownsMap_made _ _ _ _, fun j _ zd => by simp [DataW.atKey], fun j hj => by cases hj⟩
theorem VM.kept {w' : World} {row : Option Nat} (h : VM w P k b M u) (hg : w.grownBy w' row) (hne : some b ≠ row) : VM w' P k b M u := by
  obtain ⟨n, D, hown, hu⟩ := h
  exact ⟨n, D, hown.kept hg hne, hu⟩
theorem VM.same {w' : World} (h : VM w P k b M u) (hb : w'.heap[b]? = w.heap[b]?) : VM w' P k b M u := by
  obtain ⟨n, D, ⟨es, clock, h0, r⟩, hu⟩ := h
  exact ⟨n, D, ⟨es, clock, hb.trans h0, r⟩, hu⟩
theorem VM.lt (h : VM w P k b M u) : b < w.heap.size := by obtain ⟨n, D, hown, _⟩ := h; exact hown.lt
theorem VM.heap (h : VM w P k b M u) : ∃ es c, w.heap[b]? = some (.map es c) := by
  obtain ⟨n, D, ⟨es, c, h, _⟩, _⟩ := h
  exact ⟨es, c, h⟩
/-- A range over the map under way: the keys that came up so far, all different; c more come. -/
def VR (w : World) (P : Program) (kt : TypeId) (b r M : Nat) (u : Int → Option Value) (L : List Int) (c : Nat) : Prop :=
  ∃ (n : Nat) (D : DataW Value) (left : Lit → Bool), w.ranges P kt rawR b r n D left c ∧ AtKeys D u ∧ (∀ j, (u j).isSome = true → 0 ≤ j ∧ j < M) ∧
    (∀ j, I64 j → (left (.int .i64 j) = true ↔ (u j).isSome = true ∧ j ∉ L)) ∧ L.Nodup ∧ (∀ j ∈ L, (u j).isSome = true)
theorem VM.range (h : VM w P k b M u) (T : MapTyV P t k e z) : ∃ w', (Instr.range t (.map (some b))).run P w = .ok (.pointer (some ⟨w.heap.size, 0, none⟩)) w' ∧ (∃ c, VR w' P k b w.heap.size M u [] c) ∧ w.grownBy w' none ∧ w'.heap.size = w.heap.size + 1 := by
  obtain ⟨n, D, hown, hu, hk⟩ := h
  obtain ⟨w', h1, h2, h3, h4⟩ := hown.range (int_keyed T.tk) T.tm
  refine ⟨w', h1, ⟨_, n, D, _, h2, hu, hk, fun j hj => ?_, List.nodup_nil, fun j hj => by cases hj⟩, h3, h4⟩
  have hq := hu j hj
  cases hc : u j with
  | some c => rw [hc] at hq; rw [Maps.has_true_of_atKey hq]; simp
  | none => rw [hc] at hq; rw [Maps.has_false_of_atKey hq]; simp
theorem VR.vm {r c : Nat} {L : List Int} (h : VR w P k b r M u L c) : VM w P k b M u := by
  obtain ⟨n, D, left, h, hu, hk, _⟩ := h
  exact ⟨n, D, World.ranges.owns h, hu, hk⟩
theorem VR.kept {w' : World} {r c : Nat} {L : List Int} {row : Option Nat} (h : VR w P k b r M u L c) (hg : w.grownBy w' row) (h1 : some b ≠ row) (h2 : some r ≠ row) : VR w' P k b r M u L c := by
  obtain ⟨n, D, left, h, r⟩ := h
  exact ⟨n, D, left, World.ranges.kept h hg h1 h2, r⟩
/-- The next key, or none more. -/
theorem VR.next {r c : Nat} {L : List Int} (h : VR w P k b r M u L c) (T : MapTyV P t k e z) (ty : TypeId) (hM : M < maxLen) :
    ((Instr.next (.pointer (some ⟨r, 0, none⟩)) false ty).run P w = .ok (.tuple #[.bool false]) w ∧ c = 0 ∧ L.Nodup ∧ ∀ j, (u j).isSome = true ↔ j ∈ L) ∨
    ∃ x v w' c', (Instr.next (.pointer (some ⟨r, 0, none⟩)) false ty).run P w = .ok (.tuple #[.bool true, .int .i64 x, v]) w' ∧ 0 ≤ x ∧ x < M ∧ x ∉ L ∧ u x = some v ∧ VR w' P k b r M u (L ++ [x]) c' ∧ c' < c ∧ w.grownBy w' (some r) ∧ w'.heap.size = w.heap.size ∧
      (Instr.entry (.pointer (some ⟨r, 0, none⟩))).run P w' = .ok (.tuple #[.int .i64 x, v]) w' := by
  obtain ⟨n, D, left, h, hu, hk, hl, hn, hL⟩ := h
  have hi : ∀ j, (u j).isSome = true → I64 j := fun j hj => by have := hk j hj; unfold maxLen at hM; unfold I64; omega
  rcases World.ranges.next h (int_keyed T.tk) ty with ⟨h0, hz, hrun⟩ | ⟨key, v, kl, y, w', c', hkey, hlk, hv, hat, hrun, hrg, hlt, hgr, hsz, hen⟩
  · refine .inl ⟨hrun, h0, hn, fun j => ⟨fun hs => ?_, hL j⟩⟩
    by_cases hm : j ∈ L
    · exact hm
    · have := (hl j (hi j hs)).2 ⟨hs, hm⟩
      rw [hz] at this; cases this
  · obtain ⟨x, rfl, rfl, hwx⟩ := Maps.keyOf_int_inv T.tk hkey
    simp only [rawR, Option.some.injEq] at hv
    have hx : I64 x := bounds_i64 hwx
    obtain ⟨hs, hm⟩ := (hl x hx).1 hlk
    have hkx := hk x hs
    have hux : u x = some v := by
      have hq := hu x hx
      cases hc : u x with
      | none => rw [hc] at hs; cases hs
      | some v' =>
        rw [hc] at hq
        have e1 := (hq y.1).symm.trans (hat y.1)
        rw [← hv] at e1
        rw [DataW.held.inj e1]
    refine .inr ⟨x, v, w', c', hrun, hkx.1, hkx.2, hm, hux, ⟨n, D, _, hrg, hu, hk, fun j hj => ?_, ?_, fun j hj => ?_⟩, hlt, hgr, hsz, hen⟩
    · simp only [Bool.and_eq_true, Bool.not_eq_true', hl j hj, List.mem_append, List.mem_singleton, not_or]
      have hk : (Lit.int .i64 j).sameKey (.int .i64 x) = false ↔ j ≠ x := by
        constructor
        · intro h1 e; subst e; simp [Lit.sameKey] at h1
        · intro h1
          cases hb : (Lit.int .i64 j).sameKey (.int .i64 x) with
          | false => rfl
          | true => exact absurd (Lit.int.inj (WideAt.sameKey_eq hb)).2 h1
      rw [hk]
      exact ⟨fun h => ⟨h.1.1, h.1.2, h.2⟩, fun h => ⟨⟨h.1, h.2.1⟩, h.2.2⟩⟩
    · rw [List.nodup_append]
      exact ⟨hn, by simp, fun a ha b hb => by simp at hb; subst hb; exact fun e => hm (e ▸ ha)⟩
    · rcases List.mem_append.1 hj with hj | hj
      · exact hL j hj
      · simp at hj; subst hj; exact hs
end
end Go.Proofs.Yteceephenfmdoaa
