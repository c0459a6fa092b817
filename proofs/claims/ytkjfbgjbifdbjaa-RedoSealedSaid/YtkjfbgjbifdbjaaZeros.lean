/-
  'append(x, make([]byte, m)...)', on a row of the call's own that holds something. No program in sight.
-/
import Derived.Test.YtkjfbgjbifdbjaaBase
namespace Go.Proofs.Ytkjfbgjbifdbjaa
open Go.RowKit
theorem zeroCells_one (z : Value) (n : Nat) : (Builtin.zeroCells #[z] n).toList = List.replicate n z := by
  simp only [Builtin.zeroCells, List.size_toArray, List.length_cons, List.length_nil, Nat.zero_add, Nat.mul_one, Nat.mod_one]
  simp [List.map_const']
theorem zeros_grown (w : World) (base : Nat) (e : TypeId) (need old : Nat) (xs news : List Value) (z : Value) (hn : (xs ++ news).length = need) (hbase : base ≤ w.heap.size) (h63 : need ≤ maxLen) (row : Option Nat) :
    (w.drew.alloc (.cells (xs.toArray ++ news.toArray ++ Builtin.zeroCells #[z] (grownCap w need old e - need)) e)).ownsRow base e 1 (.slice (some ⟨w.heap.size, 0, none⟩) need (grownCap w need old e)) need (xs ++ news) ∧
      w.grownBy (w.drew.alloc (.cells (xs.toArray ++ news.toArray ++ Builtin.zeroCells #[z] (grownCap w need old e - need)) e)) row := by
  have hge := grownCap_ge w need old e
  have hcm : grownCap w need old e ≤ maxLen := grownCap_le_maxLen w need old e h63
  have hlen := hn
  rw [List.length_append] at hlen
  refine ⟨⟨by omega, .inr ⟨w.heap.size, _, _, rfl, hbase, heap_alloc_new w.drew _, hge, hcm, ?_, ?_⟩⟩, ⟨rfl, rfl, rfl, by simp, fun k hk _ => heap_alloc_old w.drew _ hk⟩⟩
  · simp only [Array.size_append, List.size_toArray, size_zeroCells, List.length_cons, List.length_nil]
    omega
  · simp only [Array.toList_append, List.append_assoc]
    rw [← List.append_assoc, Nat.mul_one, ← hn]
    exact List.take_left
theorem run_append_zeros {P : Program} (w : World) (base : Nat) (t ti ty e : TypeId) (i : TypeInfo) (z : Value) (q : IntKind) (ht : P.underlying t = some (.slice e)) (hti : P.underlying ti = some (.int q)) (hi : P.info? e = some i) (hz : i.zero = some z)
    (hsize : i.size = 1) (hby : i.bytes = 1) (hzs : z.cells = #[z]) (hone : z.oneCell' = true) (g n cap : Nat) (xs : List Value) (hown : w.ownsRow base e 1 (.slice (some ⟨g, 0, none⟩) n cap) n xs) (m : Nat) (hm : 0 < m) (hm2 : m ≤ 1048576) (hn : n ≤ 1048576) (hbase : base ≤ w.heap.size) :
    ∃ v' w', (Builtin.append_ #[t, ti] ty #[.slice (some ⟨g, 0, none⟩) n cap, .int .i64 (m : Int)]).run P w = .ok v' w' ∧ w'.ownsRow base e 1 v' (n + m) (xs ++ List.replicate m z) ∧ w.grownBy w' (some g) ∧ (v'.ownBlock = some g ∨ v'.ownBlock = some w.heap.size) := by
  rcases hown.2 with ⟨hv, _⟩ | ⟨g', cap', cur, hv, hbg, hg, hnc, hcm, hcs, htake⟩
  · cases hv
  · injection hv with ha _ hc
    injection ha with ha
    injection ha with hgg _ _
    subst hgg; subst hc
    have hl : (Builtin.zeroCells #[z] m).toList = List.replicate m z := zeroCells_one z m
    have hla : Builtin.zeroCells #[z] m = (List.replicate m z).toArray := by rw [← hl]
    have hwr : IntKind.i64.wrap (m : Int) = m := by rw [IntKind.wrap_i64]; omega
    have h48 : ¬ (281474976710656 < (m : Int)) := by omega
    have hx : xs.length = n := by simpa using hown.1
    have hlen : (xs ++ List.replicate m z).length = n + m := by rw [List.length_append, hx]; simp
    have hm0 : ¬ (m = 0) := by omega
    have hneg : ¬ ((m : Int) < 0) := by omega
    have hasI : ∀ W, Sem.run P (asInt (Value.int IntKind.i64 (m : Int))) W = .ok (m : Int) W := fun W => rfl
    by_cases hroom : n + m ≤ cap
    · have hfit : n + m ≤ cur.size := by omega
      have hst := run_storeCells_at P g n e (List.replicate m z) 0 cur w hg (by simpa using hfit) (fun u hu => by rw [List.eq_of_mem_replicate hu]; exact hone)
      simp only [Nat.add_zero] at hst
      refine ⟨.slice (some ⟨g, 0, none⟩) (n + m) cap, w.setRow g (cur.toList.take n ++ List.replicate m z ++ cur.toList.drop (n + m)).toArray, ?_, ⟨by simpa using hlen, .inr ⟨g, cap, _, rfl, hbg, setRow_heap w g cur _ e _ hg, hroom, hcm, ?_, ?_⟩⟩, ⟨rfl, rfl, rfl, by simp, fun k _ hk => setRow_other w g k _ (fun e => hk (by simp [e]))⟩, .inl rfl⟩
      · simp [Builtin.append_, run_underlying ht, run_underlying hti, sizeOf, typeInfo, hi, hsize, hby, hz, zeroValue, hzs, hl, hwr, hroom, hm0, Addr.add_lit, hst, hasI, h48, hneg]
      · simp; omega
      · simp only [Nat.mul_one]
        rw [show cur.toList.take n = xs by simpa using htake]
        rw [List.toList_toArray, ← hlen]
        exact List.take_left
    · have holds : ∀ j u, xs[j]? = some u → w.cell? ((⟨g, 0, none⟩ : Addr).add j) = some u := hown.cells (g := g) rfl
      have hfo := run_firstCells_some (P := P) w.drew 1 n ⟨g, 0, none⟩ n cap xs (by simpa using hx) (by simpa using holds)
      have hgr := zeros_grown w base e (n + m) cap xs (List.replicate m z) z hlen hbase (by unfold maxLen; omega) (some g)
      have h63' : ¬ (9223372036854775807 < (n : Int) + (m : Int)) := by omega
      have h48' : ¬ (281474976710656 < Builtin.nextslicecap (n + m) cap) := by
        have := growslice_fits (need := n + m) (old := cap) (bytes := 1) (by omega) (by omega)
        omega
      refine ⟨_, _, ?_, hgr.1, hgr.2, .inr rfl⟩
      simp [Builtin.append_, run_underlying ht, run_underlying hti, sizeOf, typeInfo, hi, hsize, hby, hz, zeroValue, hzs, hwr, hroom, hm0, hasI, h48, hneg, h48', h63', Question.forced, hfo, newRow, grownCap, hla]
theorem wpList_append_zeros {P : Program} {w : World} {ops : Array Oper} {rest : List Oper} {o : Oper} {a : Act} {Q : Exit → Act → World → Prop} (hgd : o.guard = none) (s x : Operand) (t ti : TypeId)
    (ho : o.op = .call { callee := .builtin .append, args := #[s, x], argTypes := #[t, ti] })
    (base : Nat) (e : TypeId) (i : TypeInfo) (z : Value) (q : IntKind) (ht : P.underlying t = some (.slice e)) (hti : P.underlying ti = some (.int q)) (hi : P.info? e = some i) (hz : i.zero = some z)
    (hsize : i.size = 1) (hby : i.bytes = 1) (hzs : z.cells = #[z]) (hone : z.oneCell' = true)
    (g n cap : Nat) (xs : List Value) (hs : a.eval s = .slice (some ⟨g, 0, none⟩) n cap) (hown : w.ownsRow base e 1 (.slice (some ⟨g, 0, none⟩) n cap) n xs)
    (m : Nat) (hx : a.eval x = .int .i64 (m : Int)) (hm : 0 < m) (hm2 : m ≤ 1048576) (hn : n ≤ 1048576) (hbase : base ≤ w.heap.size)
    (h : ∀ v' w', w'.ownsRow base e 1 v' (n + m) (xs ++ List.replicate m z) → w.grownBy w' (some g) → (v'.ownBlock = some g ∨ v'.ownBlock = some w.heap.size) → wpList P ops Q rest (a.put o.dst v') w') : wpList P ops Q (o :: rest) a w := by
  refine wpList_plain hgd fun K hK => ?_
  obtain ⟨v', w', hr, h2, h3, h4⟩ := run_append_zeros (P := P) w base t ti o.type e i z q ht hti hi hz hsize hby hzs hone g n cap xs hown m hm hm2 hn hbase
  unfold Oper.wp execOp
  simp only [ho, resolve, invoke, builtin, Sem.run_bind, Sem.run_pure, Result.andThen_ok, List.map_toArray, List.map_cons, List.map_nil, hs, hx, hr]
  exact hK _ _ (h v' w' h2 h3 h4)
end Go.Proofs.Ytkjfbgjbifdbjaa
