/-
  'append([]byte{}, b...)': a copy of bytes in a block of the call's own, wherever the literal's block lies. No program in sight but its type numbers.
-/
import Derived.Test.YtlplhllcohoeaaaRowb
import Derived.Test.YtlplhllcohoeaaaCopies
import Derived.Deep.AppendLies
namespace Go.Proofs.Ytlplhllcohoeaaa
open Go.RowKit
theorem lit_own {w : World} {base G : Nat} (hG : w.heap[G]? = some (.cells #[] 5 (0, 0))) (hb : base ≤ G) : w.ownsRow base 5 1 (.slice (some ⟨G, 0, none⟩) 0 0) 0 [] :=
  ⟨rfl, .inr ⟨G, 0, #[], rfl, hb, hG, Nat.le_refl _, by unfold maxLen; omega, rfl, rfl⟩⟩
theorem run_append_lit (w : World) (ty : TypeId) (base G : Nat) (hG : w.heap[G]? = some (.cells #[] 5 (0, 0))) (hb : base ≤ G) (A : Option Addr) (m c : Nat) (b : List Int) (hlen : b.length = m) (hr : RdB w w.heap.size A b) (hno : A = none → m = 0 ∧ c = 0) (hm : m ≤ 140737488355328) :
    ∃ g cap w', (Builtin.append_ #[22, 22] ty #[.slice (some ⟨G, 0, none⟩) 0 0, .slice A m c]).run Try.prog w = .ok (.slice (some ⟨g, 0, none⟩) m cap) w' ∧ OwnB w' base (some ⟨g, 0, none⟩) m cap b ∧ w.grownBy w' (some G) ∧ (g = G ∨ g = w.heap.size) ∧ g < w'.heap.size := by
  obtain ⟨i0, hi, hz0, hz1, hz2⟩ := info_parts info5
  have hown := lit_own hG hb
  have hlt := (Array.getElem?_eq_some_iff.1 hG).1
  cases A with
  | none =>
    obtain ⟨rfl, rfl⟩ := hno rfl
    have hn : b = [] := List.eq_nil_of_length_eq_zero hlen
    subst hn
    have hrun := run_append_owned_none (P := Try.prog) (w := w) base 22 ty 5 i0 1 Try.underlying22 hi _ 0 [] hown
    exact ⟨G, 0, w, hrun, ⟨rfl, hown⟩, World.grownBy.refl _ _, .inl rfl, hlt⟩
  | some a =>
    obtain ⟨v', w', hrun, h2, h3, h4, h5⟩ := run_append_own_at (P := Try.prog) w base 22 ty 5 i0 _ 1 1 Try.underlying22 hi hz0 hz1 hz2 rfl (by decide) (.slice (some ⟨G, 0, none⟩) 0 0) 0 [] hown a m c (bcells b) (by simp [bcells, hlen]) (hr.cells' a rfl) (bcells_one b) (by unfold maxLen; omega) (by omega) (by omega)
    rw [List.nil_append, Nat.zero_add] at h2
    have hne : ¬ v' = .slice none 0 0 := fun e => by have := (h4.1 e).1; cases this
    rcases h2.2 with ⟨hv, _⟩ | ⟨g, cap, cur, hv, hbg, hg, _⟩
    · exact absurd hv hne
    · subst hv
      refine ⟨g, cap, w', hrun, ⟨hlen, h2⟩, h3, ?_, (Array.getElem?_eq_some_iff.1 hg).1⟩
      rcases h5 with h5 | h5
      · left; simpa [Value.ownBlock] using h5
      · right; simpa [Value.ownBlock] using h5
/-- An append whose run is told by a hypothesis: 'attribute [local go_sem ↓] append_told' keeps the walk from laying it open. -/
def appTold (ts : Array TypeId) (ty : TypeId) (vs : Array Value) : Sem Value := Builtin.append_ ts ty vs
theorem append_told (ts : Array TypeId) (ty : TypeId) (vs : Array Value) : Builtin.append_ ts ty vs = appTold ts ty vs := rfl
section
variable {w : World} {o : Oper} {a : Act} {K : Act → World → Prop} {Q : Exit → Act → World → Prop}
theorem wp_append_lit (s x : Operand) (ho : o.op = .call { callee := .builtin .append, args := #[s, x], argTypes := #[22, 22] }) (base G : Nat) (hs : a.eval s = .slice (some ⟨G, 0, none⟩) 0 0) (hG : w.heap[G]? = some (.cells #[] 5 (0, 0))) (hb : base ≤ G)
    (A : Option Addr) (m c : Nat) (b : List Int) (hx : a.eval x = .slice A m c) (hlen : b.length = m) (hr : RdB w w.heap.size A b) (hno : A = none → m = 0 ∧ c = 0) (hm : m ≤ 140737488355328)
    (h : ∀ g cap w', OwnB w' base (some ⟨g, 0, none⟩) m cap b → w.grownBy w' (some G) → (g = G ∨ g = w.heap.size) → g < w'.heap.size → K (a.put o.dst (.slice (some ⟨g, 0, none⟩) m cap)) w') : o.wp Try.prog a w K Q := by
  obtain ⟨g, cap, w', hrun, h2, h3, h4, h5⟩ := run_append_lit w o.type base G hG hb A m c b hlen hr hno hm
  unfold Oper.wp execOp
  simp only [ho, resolve, invoke, builtin, Sem.run_bind, Sem.run_pure, Result.andThen_ok, List.map_toArray, List.map_cons, List.map_nil, hs, hx, hrun]
  exact h g cap w' h2 h3 h4 h5
theorem wpList_append_lit {ops : Array Oper} {rest : List Oper} (hgd : o.guard = none) (s x : Operand) (ho : o.op = .call { callee := .builtin .append, args := #[s, x], argTypes := #[22, 22] }) (base G : Nat) (hs : a.eval s = .slice (some ⟨G, 0, none⟩) 0 0) (hG : w.heap[G]? = some (.cells #[] 5 (0, 0))) (hb : base ≤ G)
    (A : Option Addr) (m c : Nat) (b : List Int) (hx : a.eval x = .slice A m c) (hlen : b.length = m) (hr : RdB w w.heap.size A b) (hno : A = none → m = 0 ∧ c = 0) (hm : m ≤ 140737488355328)
    (h : ∀ g cap w', OwnB w' base (some ⟨g, 0, none⟩) m cap b → w.grownBy w' (some G) → (g = G ∨ g = w.heap.size) → g < w'.heap.size → wpList Try.prog ops Q rest (a.put o.dst (.slice (some ⟨g, 0, none⟩) m cap)) w') : wpList Try.prog ops Q (o :: rest) a w :=
  wpList_plain hgd fun _ hK => wp_append_lit s x ho base G hs hG hb A m c b hx hlen hr hno hm fun g cap w' h2 h3 h4 h5 => hK _ _ (h g cap w' h2 h3 h4 h5)
theorem step_append_lit {ops : Array Oper} {E : Prop} (hgd : o.guard = none) (s x : Operand) (ho : o.op = .call { callee := .builtin .append, args := #[s, x], argTypes := #[22, 22] }) (base G : Nat) (hs : a.eval s = .slice (some ⟨G, 0, none⟩) 0 0) (hG : w.heap[G]? = some (.cells #[] 5 (0, 0))) (hb : base ≤ G)
    (A : Option Addr) (m c : Nat) (b : List Int) (hx : a.eval x = .slice A m c) (hlen : b.length = m) (hr : RdB w w.heap.size A b) (hno : A = none → m = 0 ∧ c = 0) (hm : m ≤ 140737488355328)
    (h : ∀ g cap w', OwnB w' base (some ⟨g, 0, none⟩) m cap b → w.grownBy w' (some G) → (g = G ∨ g = w.heap.size) → g < w'.heap.size → K (a.put o.dst (.slice (some ⟨g, 0, none⟩) m cap)) w') :
    if Region.wanted o (yielded ops a.tmps) = true then Oper.wp Try.prog o a w K Q else E := by
  have hw : Region.wanted o (yielded ops a.tmps) = true := by simp [Region.wanted, hgd]
  rw [if_pos hw]
  exact wp_append_lit s x ho base G hs hG hb A m c b hx hlen hr hno hm h
/-- The same, the world told from the one in which the bytes read. -/
theorem step_append_litB {ops : Array Oper} {E : Prop} (hgd : o.guard = none) (s x : Operand) (ho : o.op = .call { callee := .builtin .append, args := #[s, x], argTypes := #[22, 22] }) (w0 : World) (hbW : Below w0.heap.size w0 w) (G : Nat) (hs : a.eval s = .slice (some ⟨G, 0, none⟩) 0 0) (hG : w.heap[G]? = some (.cells #[] 5 (0, 0))) (hb : w0.heap.size ≤ G)
    (A : Option Addr) (m c : Nat) (b : List Int) (hx : a.eval x = .slice A m c) (hlen : b.length = m) (hr : RdB w0 w0.heap.size A b) (hno : A = none → m = 0 ∧ c = 0) (hm : m ≤ 140737488355328)
    (h : ∀ g cap w', OwnB w' w0.heap.size (some ⟨g, 0, none⟩) m cap b → w.grownBy w' (some G) → (g = G ∨ g = w.heap.size) → g < w'.heap.size → Below w0.heap.size w0 w' → K (a.put o.dst (.slice (some ⟨g, 0, none⟩) m cap)) w') :
    if Region.wanted o (yielded ops a.tmps) = true then Oper.wp Try.prog o a w K Q else E :=
  step_append_lit hgd s x ho w0.heap.size G hs hG hb A m c b hx hlen (hr.up hbW) hno hm fun g cap w' h2 h3 h4 h5 => h g cap w' h2 h3 h4 h5 (hbW.grown h3 hbW.size (fun k hk => by injection hk with hk; omega))
theorem lit_one (w : World) : (w.alloc (.cells #[] 5)).heap[w.heap.size]? = some (.cells #[] 5 (0, 0)) := heap_alloc_new w _
theorem lit_two (w : World) : ((w.alloc (.cells #[] 5)).alloc (.cells #[] 5)).heap[w.heap.size]? = some (.cells #[] 5 (0, 0)) := by
  rw [heap_alloc_old _ _ (by simp)]; exact heap_alloc_new w _
theorem lit_two' (w : World) : ((w.alloc (.cells #[] 5)).alloc (.cells #[] 5)).heap[w.heap.size + 1]? = some (.cells #[] 5 (0, 0)) := by
  have := heap_alloc_new (w.alloc (.cells #[] 5)) (.cells #[] 5)
  simpa using this
theorem lit_below (w : World) : Below w.heap.size w (w.alloc (.cells #[] 5)).drew := belowDrewN ((Below.refl _ _).alloc (Nat.le_refl _) _) 1
theorem lit_below2 (w : World) : Below w.heap.size w ((w.alloc (.cells #[] 5)).alloc (.cells #[] 5)).drew := belowDrewN (((Below.refl _ _).alloc (Nat.le_refl _) _).alloc (by simp) _) 1
end
end Go.Proofs.Ytlplhllcohoeaaa
