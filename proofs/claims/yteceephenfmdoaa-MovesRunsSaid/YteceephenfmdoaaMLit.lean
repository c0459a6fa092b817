/-
  'append([]byte{}, b...)' and 'append(x, make([]byte, m)...)' on rows of the call's own. No program in sight but its type numbers.
-/
import Derived.Test.YteceephenfmdoaaSE
import Derived.Deep.AppendLies
namespace Go.Proofs.Yteceephenfmdoaa.Sc
open Go.RowKit
theorem lit_own {w : World} {base G : Nat} (hG : w.heap[G]? = some (.cells #[] 5 (0, 0))) (hb : base ≤ G) : w.ownsRow base 5 1 (.slice (some ⟨G, 0, none⟩) 0 0) 0 [] :=
  ⟨rfl, .inr ⟨G, 0, #[], rfl, hb, hG, Nat.le_refl _, by unfold maxLen; omega, rfl, rfl⟩⟩
theorem run_append_lit (w : World) (ty : TypeId) (base G : Nat) (hG : w.heap[G]? = some (.cells #[] 5 (0, 0))) (hb : base ≤ G) (A : Option Addr) (m c : Nat) (b : List Int) (hlen : b.length = m) (hr : RdB w w.heap.size A b) (hno : A = none → m = 0 ∧ c = 0) (hm : m ≤ 140737488355328) :
    ∃ g cap w', (Builtin.append_ #[22, 22] ty #[.slice (some ⟨G, 0, none⟩) 0 0, .slice A m c]).run Try.prog w = .ok (.slice (some ⟨g, 0, none⟩) m cap) w' ∧ OwnB w' base (some ⟨g, 0, none⟩) m cap b ∧ w.grownBy w' (some G) ∧ (g = G ∨ g = w.heap.size) ∧ g < w'.heap.size := by
  obtain ⟨i0, hi, hz0, hz1, hz2⟩ := info_parts info5
  have hown := lit_own hG hb
  have hlt := (Array.getElem?_eq_some_iff.1 hG).1
  cases A with
  | none =>
    obtain ⟨rfl, rfl⟩ := hno rfl
    have hn : b = [] := List.eq_nil_of_length_eq_zero hlen
    subst hn
    have hrun := run_append_owned_none (P := Try.prog) (w := w) base 22 ty 5 i0 1 Try.underlying22 hi _ 0 [] hown
    exact ⟨G, 0, w, hrun, ⟨rfl, hown⟩, World.grownBy.refl _ _, .inl rfl, hlt⟩
  | some a =>
    obtain ⟨v', w', hrun, h2, h3, h4, h5⟩ := run_append_own_at (P := Try.prog) w base 22 ty 5 i0 _ 1 1 Try.underlying22 hi hz0 hz1 hz2 rfl (by decide) (.slice (some ⟨G, 0, none⟩) 0 0) 0 [] hown a m c (bcells b) (by simp [bcells, hlen]) (hr.cells' a rfl) (bcells_one b) (by unfold maxLen; omega) (by omega) (by omega)
    rw [List.nil_append, Nat.zero_add] at h2
    have hne : ¬ v' = .slice none 0 0 := fun e => by have := (h4.1 e).1; cases this
    rcases h2.2 with ⟨hv, _⟩ | ⟨g, cap, cur, hv, hbg, hg, _⟩
    · exact absurd hv hne
    · subst hv
      refine ⟨g, cap, w', hrun, ⟨hlen, h2⟩, h3, ?_, (Array.getElem?_eq_some_iff.1 hg).1⟩
      rcases h5 with h5 | h5
      · left; simpa [Value.ownBlock] using h5
      · right; simpa [Value.ownBlock] using h5
/-- An append whose run is told by a hypothesis: 'attribute [local go_sem ↓] append_told' keeps the walk from laying it open. -/
def appTold (ts : Array TypeId) (ty : TypeId) (vs : Array Value) : Sem Value := Builtin.append_ ts ty vs
theorem append_told (ts : Array TypeId) (ty : TypeId) (vs : Array Value) : Builtin.append_ ts ty vs = appTold ts ty vs := rfl
section
variable {w : World} {o : Oper} {a : Act} {K : Act → World → Prop} {Q : Exit → Act → World → Prop}
theorem wp_append_lit (s x : Operand) (ho : o.op = .call { callee := .builtin .append, args := #[s, x], argTypes := #[22, 22] }) (base G : Nat) (hs : a.eval s = .slice (some ⟨G, 0, none⟩) 0 0) (hG : w.heap[G]? = some (.cells #[] 5 (0, 0))) (hb : base ≤ G)
    (A : Option Addr) (m c : Nat) (b : List Int) (hx : a.eval x = .slice A m c) (hlen : b.length = m) (hr : RdB w w.heap.size A b) (hno : A = none → m = 0 ∧ c = 0) (hm : m ≤ 140737488355328)
    (h : ∀ g cap w', OwnB w' base (some ⟨g, 0, none⟩) m cap b → w.grownBy w' (some G) → (g = G ∨ g = w.heap.size) → g < w'.heap.size → K (a.put o.dst (.slice (some ⟨g, 0, none⟩) m cap)) w') : o.wp Try.prog a w K Q := by
  obtain ⟨g, cap, w', hrun, h2, h3, h4, h5⟩ := run_append_lit w o.type base G hG hb A m c b hlen hr hno hm
  unfold Oper.wp execOp
  simp only [ho, resolve, invoke, builtin, Sem.run_bind, Sem.run_pure, Result.andThen_ok, List.map_toArray, List.map_cons, List.map_nil, hs, hx, hrun]
  exact h g cap w' h2 h3 h4 h5
theorem wpList_append_lit {ops : Array Oper} {rest : List Oper} (hgd : o.guard = none) (s x : Operand) (ho : o.op = .call { callee := .builtin .append, args := #[s, x], argTypes := #[22, 22] }) (base G : Nat) (hs : a.eval s = .slice (some ⟨G, 0, none⟩) 0 0) (hG : w.heap[G]? = some (.cells #[] 5 (0, 0))) (hb : base ≤ G)
    (A : Option Addr) (m c : Nat) (b : List Int) (hx : a.eval x = .slice A m c) (hlen : b.length = m) (hr : RdB w w.heap.size A b) (hno : A = none → m = 0 ∧ c = 0) (hm : m ≤ 140737488355328)
    (h : ∀ g cap w', OwnB w' base (some ⟨g, 0, none⟩) m cap b → w.grownBy w' (some G) → (g = G ∨ g = w.heap.size) → g < w'.heap.size → wpList Try.prog ops Q rest (a.put o.dst (.slice (some ⟨g, 0, none⟩) m cap)) w') : wpList Try.prog ops Q (o :: rest) a w :=
  wpList_plain hgd fun _ hK => wp_append_lit s x ho base G hs hG hb A m c b hx hlen hr hno hm fun g cap w' h2 h3 h4 h5 => hK _ _ (h g cap w' h2 h3 h4 h5)
theorem step_append_lit {ops : Array Oper} {E : Prop} (hgd : o.guard = none) (s x : Operand) (ho : o.op = .call { callee := .builtin .append, args := #[s, x], argTypes := #[22, 22] }) (base G : Nat) (hs : a.eval s = .slice (some ⟨G, 0, none⟩) 0 0) (hG : w.heap[G]? = some (.cells #[] 5 (0, 0))) (hb : base ≤ G)
    (A : Option Addr) (m c : Nat) (b : List Int) (hx : a.eval x = .slice A m c) (hlen : b.length = m) (hr : RdB w w.heap.size A b) (hno : A = none → m = 0 ∧ c = 0) (hm : m ≤ 140737488355328)
    (h : ∀ g cap w', OwnB w' base (some ⟨g, 0, none⟩) m cap b → w.grownBy w' (some G) → (g = G ∨ g = w.heap.size) → g < w'.heap.size → K (a.put o.dst (.slice (some ⟨g, 0, none⟩) m cap)) w') :
    if Region.wanted o (yielded ops a.tmps) = true then Oper.wp Try.prog o a w K Q else E := by
  have hw : Region.wanted o (yielded ops a.tmps) = true := by simp [Region.wanted, hgd]
  rw [if_pos hw]
  exact wp_append_lit s x ho base G hs hG hb A m c b hx hlen hr hno hm h
/-- The same, the world told from the one in which the bytes read. -/
theorem step_append_litB {ops : Array Oper} {E : Prop} (hgd : o.guard = none) (s x : Operand) (ho : o.op = .call { callee := .builtin .append, args := #[s, x], argTypes := #[22, 22] }) (w0 : World) (hbW : Below w0.heap.size w0 w) (G : Nat) (hs : a.eval s = .slice (some ⟨G, 0, none⟩) 0 0) (hG : w.heap[G]? = some (.cells #[] 5 (0, 0))) (hb : w0.heap.size ≤ G)
    (A : Option Addr) (m c : Nat) (b : List Int) (hx : a.eval x = .slice A m c) (hlen : b.length = m) (hr : RdB w0 w0.heap.size A b) (hno : A = none → m = 0 ∧ c = 0) (hm : m ≤ 140737488355328)
    (h : ∀ g cap w', OwnB w' w0.heap.size (some ⟨g, 0, none⟩) m cap b → w.grownBy w' (some G) → (g = G ∨ g = w.heap.size) → g < w'.heap.size → Below w0.heap.size w0 w' → K (a.put o.dst (.slice (some ⟨g, 0, none⟩) m cap)) w') :
    if Region.wanted o (yielded ops a.tmps) = true then Oper.wp Try.prog o a w K Q else E :=
  step_append_lit hgd s x ho w0.heap.size G hs hG hb A m c b hx hlen (hr.up hbW) hno hm fun g cap w' h2 h3 h4 h5 => h g cap w' h2 h3 h4 h5 (hbW.grown h3 hbW.size (fun k hk => by injection hk with hk; omega))
theorem lit_one (w : World) : (w.alloc (.cells #[] 5)).heap[w.heap.size]? = some (.cells #[] 5 (0, 0)) := heap_alloc_new w _
theorem lit_two (w : World) : ((w.alloc (.cells #[] 5)).alloc (.cells #[] 5)).heap[w.heap.size]? = some (.cells #[] 5 (0, 0)) := by
  rw [heap_alloc_old _ _ (by simp)]; exact heap_alloc_new w _
theorem lit_two' (w : World) : ((w.alloc (.cells #[] 5)).alloc (.cells #[] 5)).heap[w.heap.size + 1]? = some (.cells #[] 5 (0, 0)) := by
  have := heap_alloc_new (w.alloc (.cells #[] 5)) (.cells #[] 5)
  simpa using this
theorem lit_below (w : World) : Below w.heap.size w (w.alloc (.cells #[] 5)).drew := belowDrewN ((Below.refl _ _).alloc (Nat.le_refl _) _) 1
theorem lit_below2 (w : World) : Below w.heap.size w ((w.alloc (.cells #[] 5)).alloc (.cells #[] 5)).drew := belowDrewN (((Below.refl _ _).alloc (Nat.le_refl _) _).alloc (by simp) _) 1
end
theorem zeroCells_one (z : Value) (n : Nat) : (Builtin.zeroCells #[z] n).toList = List.replicate n z := by
  simp only [Builtin.zeroCells, List.size_toArray, List.length_cons, List.length_nil, Nat.zero_add, Nat.mul_one, Nat.mod_one]
  simp [List.map_const']
theorem zeros_grown (w : World) (base : Nat) (e : TypeId) (need old : Nat) (xs news : List Value) (z : Value) (hn : (xs ++ news).length = need) (hbase : base ≤ w.heap.size) (h63 : need ≤ maxLen) (row : Option Nat) :
    (w.drew.alloc (.cells (xs.toArray ++ news.toArray ++ Builtin.zeroCells #[z] (grownCap w need old e - need)) e)).ownsRow base e 1 (.slice (some ⟨w.heap.size, 0, none⟩) need (grownCap w need old e)) need (xs ++ news) ∧
      w.grownBy (w.drew.alloc (.cells (xs.toArray ++ news.toArray ++ Builtin.zeroCells #[z] (grownCap w need old e - need)) e)) row := by
  have hge := grownCap_ge w need old e
  have hcm : grownCap w need old e ≤ maxLen := grownCap_le_maxLen w need old e h63
  have hlen := hn
  rw [List.length_append] at hlen
  refine ⟨⟨by omega, .inr ⟨w.heap.size, _, _, rfl, hbase, heap_alloc_new w.drew _, hge, hcm, ?_, ?_⟩⟩, ⟨rfl, rfl, rfl, by simp, fun k hk _ => heap_alloc_old w.drew _ hk⟩⟩
  · simp only [Array.size_append, List.size_toArray, size_zeroCells, List.length_cons, List.length_nil]
    omega
  · simp only [Array.toList_append, List.append_assoc]
    rw [← List.append_assoc, Nat.mul_one, ← hn]
    exact List.take_left
theorem run_append_zeros {P : Program} (w : World) (base : Nat) (t ti ty e : TypeId) (i : TypeInfo) (z : Value) (q : IntKind) (ht : P.underlying t = some (.slice e)) (hti : P.underlying ti = some (.int q)) (hi : P.info? e = some i) (hz : i.zero = some z)
    (hsize : i.size = 1) (hby : i.bytes = 1) (hzs : z.cells = #[z]) (hone : z.oneCell' = true) (g n cap : Nat) (xs : List Value) (hown : w.ownsRow base e 1 (.slice (some ⟨g, 0, none⟩) n cap) n xs) (m : Nat) (hm : 0 < m) (hm2 : m ≤ 1048576) (hn : n ≤ 1048576) (hbase : base ≤ w.heap.size) :
    ∃ v' w', (Builtin.append_ #[t, ti] ty #[.slice (some ⟨g, 0, none⟩) n cap, .int .i64 (m : Int)]).run P w = .ok v' w' ∧ w'.ownsRow base e 1 v' (n + m) (xs ++ List.replicate m z) ∧ w.grownBy w' (some g) ∧ (v'.ownBlock = some g ∨ v'.ownBlock = some w.heap.size) := by
  rcases hown.2 with ⟨hv, _⟩ | ⟨g', cap', cur, hv, hbg, hg, hnc, hcm, hcs, htake⟩
  · cases hv
  · injection hv with ha _ hc
    injection ha with ha
    injection ha with hgg _ _
    subst hgg; subst hc
    have hl : (Builtin.zeroCells #[z] m).toList = List.replicate m z := zeroCells_one z m
    have hla : Builtin.zeroCells #[z] m = (List.replicate m z).toArray := by rw [← hl]
    have hwr : IntKind.i64.wrap (m : Int) = m := by rw [IntKind.wrap_i64]; omega
    have h48 : ¬ (281474976710656 < (m : Int)) := by omega
    have hx : xs.length = n := by simpa using hown.1
    have hlen : (xs ++ List.replicate m z).length = n + m := by rw [List.length_append, hx]; simp
    have hm0 : ¬ (m = 0) := by omega
    have hneg : ¬ ((m : Int) < 0) := by omega
    have hasI : ∀ W, Sem.run P (asInt (Value.int IntKind.i64 (m : Int))) W = .ok (m : Int) W := fun W => rfl
    by_cases hroom : n + m ≤ cap
    · have hfit : n + m ≤ cur.size := by omega
      have hst := run_storeCells_at P g n e (List.replicate m z) 0 cur w hg (by simpa using hfit) (fun u hu => by rw [List.eq_of_mem_replicate hu]; exact hone)
      simp only [Nat.add_zero] at hst
      refine ⟨.slice (some ⟨g, 0, none⟩) (n + m) cap, w.setRow g (cur.toList.take n ++ List.replicate m z ++ cur.toList.drop (n + m)).toArray, ?_, ⟨by simpa using hlen, .inr ⟨g, cap, _, rfl, hbg, setRow_heap w g cur _ e _ hg, hroom, hcm, ?_, ?_⟩⟩, ⟨rfl, rfl, rfl, by simp, fun k _ hk => setRow_other w g k _ (fun e => hk (by simp [e]))⟩, .inl rfl⟩
      · simp [Builtin.append_, run_underlying ht, run_underlying hti, sizeOf, typeInfo, hi, hsize, hby, hz, zeroValue, hzs, hl, hwr, hroom, hm0, Addr.add_lit, hst, hasI, h48, hneg]
      · simp; omega
      · simp only [Nat.mul_one]
        rw [show cur.toList.take n = xs by simpa using htake]
        rw [List.toList_toArray, ← hlen]
        exact List.take_left
    · have holds : ∀ j u, xs[j]? = some u → w.cell? ((⟨g, 0, none⟩ : Addr).add j) = some u := hown.cells (g := g) rfl
      have hfo := run_firstCells_some (P := P) w.drew 1 n ⟨g, 0, none⟩ n cap xs (by simpa using hx) (by simpa using holds)
      have hgr := zeros_grown w base e (n + m) cap xs (List.replicate m z) z hlen hbase (by unfold maxLen; omega) (some g)
      have h63' : ¬ (9223372036854775807 < (n : Int) + (m : Int)) := by omega
      have h48' : ¬ (281474976710656 < Builtin.nextslicecap (n + m) cap) := by
        have := growslice_fits (need := n + m) (old := cap) (bytes := 1) (by omega) (by omega)
        omega
      refine ⟨_, _, ?_, hgr.1, hgr.2, .inr rfl⟩
      simp [Builtin.append_, run_underlying ht, run_underlying hti, sizeOf, typeInfo, hi, hsize, hby, hz, zeroValue, hzs, hwr, hroom, hm0, hasI, h48, hneg, h48', h63', Question.forced, hfo, newRow, grownCap, hla]
theorem run_append_zeros0 {P : Program} (w : World) (t ti ty e : TypeId) (i : TypeInfo) (z : Value) (q : IntKind) (ht : P.underlying t = some (.slice e)) (hti : P.underlying ti = some (.int q)) (hi : P.info? e = some i) (hz : i.zero = some z)
    (hsize : i.size = 1) (hby : i.bytes = 1) (g n cap : Nat) (hnc : n ≤ cap) : (Builtin.append_ #[t, ti] ty #[.slice (some ⟨g, 0, none⟩) n cap, .int .i64 0]).run P w = .ok (.slice (some ⟨g, 0, none⟩) n cap) w := by
  have hwr : IntKind.i64.wrap 0 = 0 := by rw [IntKind.wrap_i64]; omega
  have hasI : ∀ W, Sem.run P (asInt (Value.int IntKind.i64 0)) W = .ok (0 : Int) W := fun W => rfl
  simp [Builtin.append_, run_underlying ht, run_underlying hti, sizeOf, typeInfo, hi, hsize, hby, hz, zeroValue, hwr, hasI, hnc]
  have : (Sem.run P (storeCells ((⟨g, 0, none⟩ : Addr).add n) []) w) = .ok () w := rfl
  simp [this, Result.andThen_ok]
/-- The bytes of a file, behind them zeros. -/
theorem run_append_zerosB (w : World) (ty : TypeId) (base g n cap : Nat) (xs : List Int) (hown : OwnB w base (some ⟨g, 0, none⟩) n cap xs) (m : Nat) (hm2 : m ≤ 1048576) (hn : n ≤ 1048576) (hbase : base ≤ w.heap.size) :
    ∃ g' cap' w', (Builtin.append_ #[22, 3] ty #[.slice (some ⟨g, 0, none⟩) n cap, .int .i64 (m : Int)]).run Try.prog w = .ok (.slice (some ⟨g', 0, none⟩) (n + m) cap') w' ∧ OwnB w' base (some ⟨g', 0, none⟩) (n + m) cap' (xs ++ List.replicate m 0) ∧ w.grownBy w' (some g) ∧ (g' = g ∨ g' = w.heap.size) ∧ g' < w'.heap.size := by
  obtain ⟨i0, hi, hz0, hz1, hz2⟩ := info_parts info5
  have hlt : g < w.heap.size := by
    rcases hown.2.2 with ⟨hv, _⟩ | ⟨g2, _, _, hv, _, hg, _⟩
    · cases hv
    · injection hv with ha _ _
      injection ha with ha
      injection ha with ha _ _
      subst ha
      exact (Array.getElem?_eq_some_iff.1 hg).1
  by_cases h0 : m = 0
  · subst h0
    have hnc := hown.cap.1
    refine ⟨g, cap, w, run_append_zeros0 w 22 3 ty 5 i0 _ .i64 Try.underlying22 Try.underlying3 hi hz0 hz1 hz2 g n cap hnc, by simpa using hown, World.grownBy.refl _ _, .inl rfl, hlt⟩
  · obtain ⟨v', w', hrun, h2, h3, h4⟩ := run_append_zeros (P := Try.prog) w base 22 3 ty 5 i0 _ .i64 Try.underlying22 Try.underlying3 hi hz0 hz1 hz2 rfl (by decide) g n cap (bcells xs) hown.2 m (by omega) hm2 hn hbase
    have hbc : bcells xs ++ List.replicate m (Value.int .u8 0) = bcells (xs ++ List.replicate m 0) := by simp [bcells]
    rw [hbc] at h2
    have hlen : (xs ++ List.replicate m (0 : Int)).length = n + m := by simp [hown.1]
    rcases h2.2 with ⟨hv, hn0⟩ | ⟨g', cap', cur, hv, hbg, hg, _⟩
    · rw [hv] at h4
      simp [Value.ownBlock] at h4
    · subst hv
      refine ⟨g', cap', w', hrun, ⟨hlen, h2⟩, h3, ?_, (Array.getElem?_eq_some_iff.1 hg).1⟩
      rcases h4 with h5 | h5
      · left; simpa [Value.ownBlock] using h5
      · right; simpa [Value.ownBlock] using h5
section
variable {w : World} {o : Oper} {a : Act} {K : Act → World → Prop} {Q : Exit → Act → World → Prop}
theorem step_append_zerosB {ops : Array Oper} {E : Prop} (hgd : o.guard = none) (s x : Operand) (ho : o.op = .call { callee := .builtin .append, args := #[s, x], argTypes := #[22, 3] }) (base g n cap : Nat) (hs : a.eval s = .slice (some ⟨g, 0, none⟩) n cap) (xs : List Int) (hown : OwnB w base (some ⟨g, 0, none⟩) n cap xs)
    (m : Nat) (hx : a.eval x = .int .i64 (m : Int)) (hm2 : m ≤ 1048576) (hn : n ≤ 1048576) (hbase : base ≤ w.heap.size)
    (h : ∀ g' cap' w', OwnB w' base (some ⟨g', 0, none⟩) (n + m) cap' (xs ++ List.replicate m 0) → w.grownBy w' (some g) → (g' = g ∨ g' = w.heap.size) → g' < w'.heap.size → K (a.put o.dst (.slice (some ⟨g', 0, none⟩) (n + m) cap')) w') :
    if Region.wanted o (yielded ops a.tmps) = true then Oper.wp Try.prog o a w K Q else E := by
  have hw : Region.wanted o (yielded ops a.tmps) = true := by simp [Region.wanted, hgd]
  rw [if_pos hw]
  obtain ⟨g', cap', w', hrun, h2, h3, h4, h5⟩ := run_append_zerosB w o.type base g n cap xs hown m hm2 hn hbase
  unfold Oper.wp execOp
  simp only [ho, resolve, invoke, builtin, Sem.run_bind, Sem.run_pure, Result.andThen_ok, List.map_toArray, List.map_cons, List.map_nil, hs, hx, hrun]
  exact h g' cap' w' h2 h3 h4 h5
end
end Go.Proofs.Yteceephenfmdoaa.Sc
