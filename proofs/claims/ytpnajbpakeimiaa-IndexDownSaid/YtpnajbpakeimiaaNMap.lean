/-
  A map from numbers to numbers in memory, as a function: look-up with 'ok', store, a range that collects its keys. No program in sight but its type numbers.
-/
import Derived.Test.YtpnajbpakeimiaaBLit
import Derived.Test.YtpnajbpakeimiaaRPlain
import Derived.Maps.OwnSet
import Derived.Maps.RangeWalk
import Derived.Maps.Views
import Derived.Handy
import Derived.MapFrom
namespace Go.Proofs.Ytpnajbpakeimiaa
open Go.RowKit Go.Maps Go.ChangeMaps Go.MapKept
theorem I64.wf {k : Int} (h : I64 k) : (Lit.int .i64 k).wf = true := WalkArith.wf_i64 h
def updN (u : Int → Option Int) (k : Int) (x : Int) : Int → Option Int := fun j => if j = k then some x else u j
theorem nt : Try.prog.underlying 54 = some (.map 3 3) := Try.underlying54
theorem nk : Try.prog.underlying 3 = some (.int .i64) := Try.underlying3
theorem nz (w : World) : (zeroValue 3).run Try.prog w = .ok (.int .i64 0) w := by kernel_rfl
/-- Block b is a map of at most n entries that holds u. -/
def CM (w : World) (b n : Nat) (u : Int → Option Int) : Prop :=
  ∃ D : DataW Unit, w.ownsMap Try.prog 3 (plainElem Try.prog 3) b n D ∧ ∀ j, I64 j → match u j with | some c => I64 c ∧ ∀ zd, D.atKey (.int .i64 j) zd = .lit (.int .i64 c) | none => ∀ zd, D.atKey (.int .i64 j) zd = zd
section
variable {w : World} {b n : Nat} {u : Int → Option Int}
theorem CM.look (h : CM w b n u) {j : Int} (hj : I64 j) : (Instr.lookup 54 (.map (some b)) (.int .i64 j) true).run Try.prog w = .ok (.tuple #[.int .i64 ((u j).getD 0), .bool (u j).isSome]) w := by
  obtain ⟨D, hown, hu⟩ := h
  obtain ⟨v, ps, hrun, hv⟩ := hown.look_ok (int_keyed nk) nt (nz w) (plainElem_int nk (by decide)) (keyOf_int_mk nk hj.wf)
  obtain ⟨a, rfl, ha, _⟩ := plainElem_int_inv nk hv
  have hq := hu j hj
  simp only [Prod.mk.injEq] at ha
  cases hc : u j with
  | some c =>
    rw [hc] at hq
    have e1 := (hq.2 (.lit (.int .i64 0))).symm.trans ha.1
    have e1 := (Lit.int.inj (DataW.lit.inj e1)).2
    rw [hrun, ← e1, Maps.has_true_of_atKey hq.2]
    rfl
  | none =>
    rw [hc] at hq
    have e1 := (hq (.lit (.int .i64 0))).symm.trans ha.1
    have e1 := (Lit.int.inj (DataW.lit.inj e1)).2
    rw [hrun, ← e1, Maps.has_false_of_atKey hq]
    rfl
theorem CM.store (h : CM w b n u) (hn : n < maxLen) {j c : Int} (hj : I64 j) (hc : I64 c) :
    ∃ w', (Instr.mapUpdate 54 (.map (some b)) (.int .i64 j) (.int .i64 c)).run Try.prog w = .ok () w' ∧ CM w' b (n+1) (updN u j c) ∧ w.grownBy w' (some b) := by
  obtain ⟨D, hown, hu⟩ := h
  obtain ⟨w', hrun, hown', hg⟩ := hown.update (int_keyed nk) nt hn (keyOf_int_mk nk hj.wf) (plainElem_int nk hc.wf)
  refine ⟨w', hrun, ⟨_, hown', fun i hi => ?_⟩, hg⟩
  by_cases hij : i = j
  · subst hij
    simp only [updN, if_pos]
    exact ⟨hc, fun zd => by rw [atKey_put_same hown.isMap (by simp [WideAt.IsKeyLit])]⟩
  · simp only [updN, if_neg hij]
    have e : ∀ zd, (D.put (.int .i64 j) (.lit (.int .i64 c))).atKey (.int .i64 i) zd = D.atKey (.int .i64 i) zd := fun zd => by rw [atKey_put_other (by intro hh; injection hh with _ h2; exact hij h2)]
    have hq := hu i hi
    cases hc' : u i with
    | some c' => rw [hc'] at hq; exact ⟨hq.1, fun zd => (e zd).trans (hq.2 zd)⟩
    | none => rw [hc'] at hq; exact fun zd => (e zd).trans (hq zd)
theorem CM.made (w : World) : CM (w.alloc (.map #[] 0)) w.heap.size 0 (fun _ => none) :=
  ⟨.map [], World.ownsMap_made _ _ _ _, fun j _ zd => by simp [DataW.atKey]⟩
theorem CM.kept {w' : World} {row : Option Nat} (h : CM w b n u) (hg : w.grownBy w' row) (hne : some b ≠ row) : CM w' b n u := by
  obtain ⟨D, hown, hu⟩ := h
  exact ⟨D, hown.kept hg hne, hu⟩
theorem CM.same {w' : World} (h : CM w b n u) (hb : w'.heap[b]? = w.heap[b]?) : CM w' b n u := by
  obtain ⟨D, ⟨es, clock, h0, r⟩, hu⟩ := h
  exact ⟨D, ⟨es, clock, hb.trans h0, r⟩, hu⟩
theorem CM.lt (h : CM w b n u) : b < w.heap.size := by obtain ⟨D, hown, _⟩ := h; exact hown.lt
theorem CM.mono (h : CM w b n u) {n' : Nat} (hn : n ≤ n') : CM w b n' u := by obtain ⟨D, hown, hu⟩ := h; exact ⟨D, hown.mono hn, hu⟩
theorem CM.heap (h : CM w b n u) : ∃ es c, w.heap[b]? = some (.map es c) := by
  obtain ⟨D, ⟨es, c, h, _⟩, _⟩ := h
  exact ⟨es, c, h⟩
/-- A range over the map under way: the keys that came up so far, all different; c more come. -/
def RC (w : World) (b r n : Nat) (u : Int → Option Int) (L : List Int) (c : Nat) : Prop :=
  ∃ (D : DataW Unit) (left : Lit → Bool), w.ranges Try.prog 3 (plainElem Try.prog 3) b r n D left c ∧ (∀ j, I64 j → match u j with | some c => I64 c ∧ ∀ zd, D.atKey (.int .i64 j) zd = .lit (.int .i64 c) | none => ∀ zd, D.atKey (.int .i64 j) zd = zd) ∧
    (∀ j, I64 j → (left (.int .i64 j) = true ↔ (u j).isSome = true ∧ j ∉ L)) ∧ L.length + c ≤ n ∧ (∀ j ∈ L, I64 j ∧ (u j).isSome = true)
theorem CM.range (h : CM w b n u) : ∃ w', (Instr.range 54 (.map (some b))).run Try.prog w = .ok (.pointer (some ⟨w.heap.size, 0, none⟩)) w' ∧ (∃ c, RC w' b w.heap.size n u [] c) ∧ w.grownBy w' none ∧ w'.heap.size = w.heap.size + 1 := by
  obtain ⟨D, hown, hu⟩ := h
  have hsz := hown.size_le
  obtain ⟨w', h1, h2, h3, h4⟩ := hown.range (int_keyed nk) nt
  refine ⟨w', h1, ⟨_, D, _, h2, hu, fun j hj => ?_, by simpa using hsz, fun j hj => by cases hj⟩, h3, h4⟩
  have hq := hu j hj
  cases hc : u j with
  | some c => rw [hc] at hq; rw [Maps.has_true_of_atKey hq.2]; simp
  | none => rw [hc] at hq; rw [Maps.has_false_of_atKey hq]; simp
theorem RC.cm {r c : Nat} {L : List Int} (h : RC w b r n u L c) : CM w b n u := by
  obtain ⟨D, left, h, hu, _⟩ := h
  exact ⟨D, World.ranges.owns h, hu⟩
theorem RC.kept {w' : World} {r c : Nat} {L : List Int} {row : Option Nat} (h : RC w b r n u L c) (hg : w.grownBy w' row) (h1 : some b ≠ row) (h2 : some r ≠ row) : RC w' b r n u L c := by
  obtain ⟨D, left, h, k⟩ := h
  exact ⟨D, left, World.ranges.kept h hg h1 h2, k⟩
/-- The next key, or none more. -/
theorem RC.next {r c : Nat} {L : List Int} (h : RC w b r n u L c) (ty : TypeId) :
    ((Instr.next (.pointer (some ⟨r, 0, none⟩)) false ty).run Try.prog w = .ok (.tuple #[.bool false]) w ∧ c = 0 ∧ ∀ j, I64 j → (u j).isSome = true → j ∈ L) ∨
    ∃ k v w' c', (Instr.next (.pointer (some ⟨r, 0, none⟩)) false ty).run Try.prog w = .ok (.tuple #[.bool true, .int .i64 k, .int .i64 v]) w' ∧ I64 k ∧ k ∉ L ∧ (u k).isSome = true ∧ RC w' b r n u (L ++ [k]) c' ∧ c' < c ∧ w.grownBy w' (some r) ∧ w'.heap.size = w.heap.size ∧
      (Instr.entry (.pointer (some ⟨r, 0, none⟩))).run Try.prog w' = .ok (.tuple #[.int .i64 k, .int .i64 v]) w' := by
  obtain ⟨D, left, h, hu, hl, hn, hL⟩ := h
  rcases World.ranges.next h (int_keyed nk) ty with ⟨h0, hz, hrun⟩ | ⟨key, v, kl, y, w', c', hkey, hlk, hv, hat, hrun, hrg, hlt, hgr, hsz, hen⟩
  · refine .inl ⟨hrun, h0, fun j hj hs => ?_⟩
    by_cases hm : j ∈ L
    · exact hm
    · have := (hl j hj).2 ⟨hs, hm⟩
      rw [hz] at this; cases this
  · obtain ⟨x, rfl, rfl, hwx⟩ := Maps.keyOf_int_inv nk hkey
    obtain ⟨cv, rfl, _, _⟩ := plainElem_int_inv nk hv
    have hx : I64 x := bounds_i64 hwx
    obtain ⟨hs, hm⟩ := (hl x hx).1 hlk
    refine .inr ⟨x, cv, w', c', hrun, hx, hm, hs, ⟨D, _, hrg, hu, fun j hj => ?_, by simp; omega, fun j hj => ?_⟩, hlt, hgr, hsz, hen⟩
    · simp only [Bool.and_eq_true, Bool.not_eq_true', hl j hj, List.mem_append, List.mem_singleton, not_or]
      have hk : (Lit.int .i64 j).sameKey (.int .i64 x) = false ↔ j ≠ x := by
        constructor
        · intro h1 e; subst e; simp [Lit.sameKey] at h1
        · intro h1
          cases hb : (Lit.int .i64 j).sameKey (.int .i64 x) with
          | false => rfl
          | true => exact absurd (Lit.int.inj (WideAt.sameKey_eq hb)).2 h1
      rw [hk]
      exact ⟨fun h => ⟨h.1.1, h.1.2, h.2⟩, fun h => ⟨⟨h.1, h.2.1⟩, h.2.2⟩⟩
    · rcases List.mem_append.1 hj with hj | hj
      · exact hL j hj
      · simp at hj; subst hj; exact ⟨hx, hs⟩
end
end Go.Proofs.Ytpnajbpakeimiaa
