/-
  Slices of bytes and of numbers in memory: read, owned; appends. No program in sight.
-/
import Derived.WalkKit
import Derived.WalkSpells
import Derived.ProofKit
import Derived.Lib.Hide
import Derived.Laws.AppendOwnNone
import Derived.Deep.Draws
import Derived.OwnWalk
namespace Go.Proofs.Ytlplhllcohoeaaa
open Go.RowKit
theorem take_snoc {α : Type} (l : List α) (k : Nat) (s : α) (h : l[k]? = some s) : l.take (k+1) = l.take k ++ [s] := by
  rw [List.take_add_one, h]; rfl
theorem get_some {α : Type} (l : List α) (k : Nat) (h : k < l.length) : ∃ s, l[k]? = some s := ⟨_, List.getElem?_eq_getElem h⟩

theorem cell_new (w : World) (cs : Array Value) (t : TypeId) (j : Nat) : (w.alloc (.cells cs t)).cell? ⟨w.heap.size, j, none⟩ = cs[j]? := cell_of_row _ _ j cs t (0, 0) (heap_alloc_new w _)
theorem ret_int {k : IntKind} {a b : Int} (h : a = b) : Ending.returned (.int k a) = .returned (.int k b) := by rw [h]
theorem ret_bool {a b : Bool} (h : a = b) : Ending.returned (.bool a) = .returned (.bool b) := by rw [h]
theorem belowDrewN {B : Nat} {a w : World} (h : Below B a w) (n : Nat) : Below B a (w.drewN n) := ⟨h.os, h.tape, h.output, h.size, h.block⟩
theorem below_up {w w1 w2 : World} (h : Below w.heap.size w w1) (h' : Below w1.heap.size w1 w2) : Below w.heap.size w w2 := h.trans (h'.mono h.size)
def bcells (l : List Int) : List Value := l.map (Value.int .u8)
theorem bcells_get (l : List Int) (k : Nat) : (bcells l)[k]? = (l[k]?).map (Value.int .u8) := by simp [bcells]
theorem bcells_one (l : List Int) : ∀ u ∈ bcells l, u.oneCell' = true := by
  intro u hu
  obtain ⟨x, _, rfl⟩ := List.mem_map.1 hu
  rfl
/-- A slice of bytes that reads as a list, nil let in. -/
def RdB (w : World) (B : Nat) (A : Option Addr) (l : List Int) : Prop :=
  ∀ k v, l[k]? = some v → ∃ b off, A = some ⟨b, off, none⟩ ∧ b < B ∧ w.cell? ⟨b, off + k, none⟩ = some (.int .u8 v)
theorem RdB.keep {w w' : World} {B : Nat} {A : Option Addr} {l : List Int} (h : RdB w B A l) (hk : ∀ p : Addr, p.block < B → w'.cell? p = w.cell? p) : RdB w' B A l := by
  intro k s hs
  obtain ⟨b, off, e, hb, h0⟩ := h k s hs
  exact ⟨b, off, e, hb, (hk _ hb).trans h0⟩
theorem RdB.below {w w' : World} {B B' : Nat} {A : Option Addr} {l : List Int} (h : RdB w B A l) (hb : Below B' w w') (hB : B ≤ B') : RdB w' B A l := h.keep fun _ hp => hb.cell (by omega)
theorem RdB.more {w : World} {B B' : Nat} {A : Option Addr} {l : List Int} (h : RdB w B A l) (hB : B ≤ B') : RdB w B' A l := by
  intro k s hs
  obtain ⟨b, off, e, hb, hh⟩ := h k s hs
  exact ⟨b, off, e, by omega, hh⟩
theorem RdB.up {w w' : World} {A : Option Addr} {l : List Int} (h : RdB w w.heap.size A l) (hb : Below w.heap.size w w') : RdB w' w'.heap.size A l := (h.below hb (Nat.le_refl _)).more hb.size
theorem RdB.alloc {w : World} {B : Nat} {A : Option Addr} {l : List Int} (h : RdB w B A l) (hB : B ≤ w.heap.size) (o : Obj) : RdB (w.alloc o) B A l := h.keep fun p hp => World.cell?_alloc_lt w o p (by omega)
theorem RdB.nil (w : World) (B : Nat) (A : Option Addr) : RdB w B A [] := fun k s hs => by simp at hs
theorem RdB.drewN {w : World} {B : Nat} {A : Option Addr} {l : List Int} (h : RdB w B A l) (n : Nat) : RdB (w.drewN n) B A l := h
/-- A piece of a row that is not empty. -/
theorem RdB.piece {w : World} {B b off : Nat} {l : List Int} (h : RdB w B (some ⟨b, off, none⟩) l) (i n : Nat) : RdB w B (some ⟨b, off + i, none⟩) ((l.drop i).take n) := by
  intro k v hv
  rw [List.getElem?_take] at hv
  split at hv
  · rw [List.getElem?_drop] at hv
    obtain ⟨b', off', e, hb, hc⟩ := h _ _ hv
    cases e
    exact ⟨b, off + i, rfl, hb, by rw [Nat.add_assoc]; exact hc⟩
  · cases hv
theorem RdB.cells {w : World} {B b off : Nat} {l : List Int} (h : RdB w B (some ⟨b, off, none⟩) l) : ∀ j u, (bcells l)[j]? = some u → w.cell? ((⟨b, off, none⟩ : Addr).add j) = some u := by
  intro j u hu
  rw [bcells_get] at hu
  obtain ⟨v, hv, rfl⟩ := Option.map_eq_some_iff.1 hu
  obtain ⟨b', off', e, hb, hc⟩ := h _ _ hv
  cases e
  have hadd : (⟨b, off, none⟩ : Addr).add j = ⟨b, off + j, none⟩ := by unfold Addr.add; split <;> simp_all
  rw [hadd]; exact hc
/-- The call's own row of bytes. -/
def OwnB (w : World) (base : Nat) (A : Option Addr) (n cap : Nat) (l : List Int) : Prop := l.length = n ∧ w.ownsRow base 5 1 (.slice A n cap) n (bcells l)
theorem OwnB.rd {w : World} {base : Nat} {A : Option Addr} {n cap : Nat} {l : List Int} (h : OwnB w base A n cap l) : RdB w w.heap.size A l := by
  obtain ⟨hl, h⟩ := h
  intro k s hs
  have hk : k < l.length := (List.getElem?_eq_some_iff.1 hs).1
  have h2 := h.2
  rcases h2 with ⟨hv, hn⟩ | ⟨g, cap', cur, hv, hbg, hg, hr⟩
  · omega
  · injection hv with ha hn hc
    subst ha; subst hc
    have hlt : g < w.heap.size := (Array.getElem?_eq_some_iff.1 hg).1
    refine ⟨g, 0, rfl, hlt, ?_⟩
    rw [h.cellAt _ (by omega), bcells_get, Nat.zero_add, hs]; rfl
theorem OwnB.nil (w : World) (base : Nat) : OwnB w base none 0 0 [] := ⟨rfl, World.ownsRow_nil _ _ _ _⟩
theorem OwnB.below {w w' : World} {base : Nat} {A : Option Addr} {n cap B : Nat} {l : List Int} (h : OwnB w base A n cap l) (hb : Below B w w') (hB : w.heap.size ≤ B) : OwnB w' base A n cap l :=
  ⟨h.1, h.2.kept (row := none) ⟨hb.os, hb.tape, hb.output, hb.size, fun k hk _ => hb.block k (by omega)⟩ (by cases A <;> simp [Value.ownBlock])⟩
theorem OwnB.alloc {w : World} {base : Nat} {A : Option Addr} {n cap : Nat} {l : List Int} (h : OwnB w base A n cap l) (o : Obj) : OwnB (w.alloc o) base A n cap l := ⟨h.1, h.2.alloc o⟩
theorem OwnB.drewN {w : World} {base : Nat} {A : Option Addr} {n cap : Nat} {l : List Int} (h : OwnB w base A n cap l) (k : Nat) : OwnB (w.drewN k) base A n cap l := h
theorem OwnB.mono {w : World} {base base' : Nat} {A : Option Addr} {n cap : Nat} {l : List Int} (h : OwnB w base A n cap l) (hB : base' ≤ base) : OwnB w base' A n cap l := by
  obtain ⟨h0, h1, h2⟩ := h
  refine ⟨h0, h1, ?_⟩
  rcases h2 with h2 | ⟨g, cap', cur, hv, hbg, hr⟩
  · exact .inl h2
  · exact .inr ⟨g, cap', cur, hv, by omega, hr⟩
theorem OwnB.cap {w : World} {base : Nat} {A : Option Addr} {n cap : Nat} {l : List Int} (h : OwnB w base A n cap l) : n ≤ cap ∧ cap ≤ maxLen := by
  obtain ⟨hl, h1, h2⟩ := h
  rcases h2 with ⟨hv, hn'⟩ | ⟨g, cap', cur, hv, hbg, hg, hnc, hcm, _⟩
  · injection hv with _ hn hc
    subst hc; omega
  · injection hv with ha _ hc
    subst hc
    exact ⟨hnc, hcm⟩
theorem ext_of_ownB {w' : World} {base : Nat} {v : Value} {n : Nat} {xs : List Value} (h : w'.ownsRow base 5 1 v n xs) : ∃ A cap, v = .slice A n cap := by
  rcases h.2 with ⟨hv, hn⟩ | ⟨g, cap', cur, hv, _⟩
  · subst hn; exact ⟨_, _, hv⟩
  · exact ⟨_, _, hv⟩
/-- Behind an append of bytes to the call's own row. -/
theorem appB_step {w wr W0 w1 : World} {BB n m c : Nat} {A' : Option Addr} {L K : List Int} {v' : Value} (hown : OwnB wr BB A' n c L) (hb : Below BB w wr) (hsz : BB ≤ wr.heap.size)
    (hW : Below wr.heap.size wr W0) (hK : K.length = m) (hown' : w1.ownsRow BB 5 1 v' (n+m) (bcells L ++ bcells K)) (hg : W0.grownBy w1 (Value.slice A' n c).ownBlock) :
    (∃ A'' c'', v' = .slice A'' (n+m) c'' ∧ OwnB w1 BB A'' (n+m) c'' (L ++ K)) ∧ Below BB w w1 ∧ Below BB wr w1 ∧ W0.heap.size ≤ w1.heap.size ∧ (∀ g o, wr.heap.size ≤ g → g < W0.heap.size → w1.cell? ⟨g, o, none⟩ = W0.cell? ⟨g, o, none⟩) := by
  have hr : ∀ k, (Value.slice A' n c).ownBlock = some k → BB ≤ k ∧ k < wr.heap.size := hown.2.lt
  refine ⟨?_, ?_, (hW.mono hsz).grown hg (by have := hW.size; omega) (fun k hk => (hr k hk).1), hg.size, ?_⟩
  · obtain ⟨A'', c'', rfl⟩ := ext_of_ownB hown'
    exact ⟨A'', c'', rfl, by simp [hown.1, hK], by simpa [bcells] using hown'⟩
  · exact (hb.trans (hW.mono hsz)).grown hg (by have := hW.size; omega) (fun k hk => (hr k hk).1)
  · intro g o h1 h2
    exact World.cell?_of_block (w := W0) (a := ⟨g, o, none⟩) (hg.block g h2 (fun e => by have := (hr g e.symm).2; omega))
theorem newb_one (w : World) (v : Int) (g : Nat) (hg : g = w.heap.size) : ∀ j u, (bcells [v])[j]? = some u → (w.alloc (.cells #[.int .u8 v] 5)).cell? ((⟨g, 0, none⟩ : Addr).add j) = some u := by
  subst hg
  intro j u hu
  have hadd : (⟨w.heap.size, 0, none⟩ : Addr).add j = ⟨w.heap.size, j, none⟩ := by unfold Addr.add; split <;> simp_all
  rw [hadd, cell_new]
  simpa [bcells] using hu

theorem wpList_append_any {P : Program} {w : World} {ops : Array Oper} {rest : List Oper} {o : Oper} {a : Act} {Q : Exit → Act → World → Prop} (hgd : o.guard = none) (s x : Operand) (t : TypeId)
    (ho : o.op = .call { callee := .builtin .append, args := #[s, x], argTypes := #[t, t] })
    (base : Nat) (e : TypeId) (i : TypeInfo) (z : Value) (size bytes : Nat) (ht : P.underlying t = some (.slice e)) (hi : P.info? e = some i) (hz : i.zero = some z)
    (hsize : i.size = size) (hby : i.bytes = bytes) (hzs : z.cells.size = size) (hsz : 0 < size)
    (v : Value) (n : Nat) (xs : List Value) (hs : a.eval s = v) (hown : w.ownsRow base e size v n xs)
    (A : Option Addr) (m c : Nat) (news : List Value) (hx : a.eval x = .slice A m c) (hnone : A = none → m = 0 ∧ c = 0) (hl : news.length = m * size) (hnews : ∀ ad, A = some ad → ∀ j u, news[j]? = some u → w.cell? (ad.add j) = some u) (h1 : ∀ u ∈ news, u.oneCell' = true)
    (h63 : n + m ≤ maxLen) (hbytes : (n + m) * bytes ≤ 140737488355328) (hbase : base ≤ w.heap.size)
    (h : ∀ v' w', w'.ownsRow base e size v' (n + m) (xs ++ news) → w.grownBy w' v.ownBlock → wpList P ops Q rest (a.put o.dst v') w') : wpList P ops Q (o :: rest) a w := by
  cases A with
  | none =>
    obtain ⟨rfl, rfl⟩ := hnone rfl
    have hn : news = [] := List.eq_nil_of_length_eq_zero (by simpa using hl)
    subst hn
    refine wpList_append_own_none hgd s x t ho base e i size ht hi v n xs hs hown hx (h v w ?_ (World.grownBy.refl _ _))
    simpa using hown
  | some ad =>
    exact wpList_append_own w hgd s x t ho base e i z size bytes ht hi hz hsize hby hzs hsz v n xs hs hown ad m c news hx hl (hnews ad rfl) h1 h63 hbytes hbase (fun v' w' h1 h2 _ => h v' w' h1 h2)
/-- Where an append to a row of the call's own leaves the row. -/
theorem run_append_block {P : Program} (w : World) (base : Nat) (t ty e : TypeId) (i : TypeInfo) (z : Value) (size bytes : Nat) (ht : P.underlying t = some (.slice e)) (hi : P.info? e = some i) (hz : i.zero = some z)
    (hsize : i.size = size) (hby : i.bytes = bytes) (v : Value) (n : Nat) (xs : List Value) (hown : w.ownsRow base e size v n xs)
    (a : Addr) (m c : Nat) (news : List Value) (hl : news.length = m * size) (hnews : ∀ j u, news[j]? = some u → w.cell? (a.add j) = some u) (h1 : ∀ u ∈ news, u.oneCell' = true)
    (h63 : n + m ≤ maxLen) (hbytes : (n + m) * bytes ≤ 140737488355328) {v' : Value} {w' : World} (hr : (Builtin.append_ #[t, t] ty #[v, .slice (some a) m c]).run P w = .ok v' w') :
    v'.ownBlock = v.ownBlock ∨ v'.ownBlock = some w.heap.size := by
  subst hsize
  subst hby
  have hsmall : n + m ≤ 9223372036854775807 := by simp only [maxLen] at h63; omega
  rcases hown.2 with ⟨rfl, rfl⟩ | ⟨g, cap, cur, rfl, hbg, hg, hnc, hcm, hcs, htake⟩
  · by_cases hm : m = 0
    · subst hm
      left
      have hn : news = [] := List.eq_nil_of_length_eq_zero (by simpa using hl)
      subst hn
      have hx : (Builtin.append_ #[t, t] ty #[.slice none 0 0, .slice (some a) 0 c]).run P w = .ok (.slice none 0 0) w := by
        simp [Builtin.append_, run_underlying ht, sizeOf, typeInfo, hi, Builtin.lenOf, Builtin.firstCells, loadCells, loadCellsFrom]
      rw [hx] at hr
      injection hr with h2 _
      rw [← h2]
    · right
      have hx := run_append_nil (P := P) w t ty e i z ht hi hz a m c news hl hnews (by omega) (by omega) (by simp only [Nat.zero_add] at hbytes; omega)
      rw [hx] at hr
      injection hr with h2 _
      rw [← h2]; rfl
  · by_cases hroom : n + m ≤ cap
    · left
      have hfit : n * i.size + news.length ≤ cur.size := by rw [hl, hcs, ← Nat.add_mul]; exact Nat.mul_le_mul_right _ hroom
      have hx := run_append_room (P := P) w t ty e i ht hi g n cap cur hg a m c news hl hnews h1 hroom hfit
      rw [hx] at hr
      injection hr with h2 _
      rw [← h2]; rfl
    · right
      have holds : ∀ j u, xs[j]? = some u → w.cell? ((⟨g, 0, none⟩ : Addr).add j) = some u := hown.cells (g := g) rfl
      have hx := run_append_grow (P := P) w t ty e i z ht hi hz ⟨g, 0, none⟩ n cap xs hown.1 holds a m c news hl hnews (by omega) (by omega) (growslice_fits (by omega) hbytes)
      rw [hx] at hr
      injection hr with h2 _
      rw [← h2]; rfl
theorem wpList_append_block {P : Program} {w : World} {ops : Array Oper} {rest : List Oper} {o : Oper} {a : Act} {Q : Exit → Act → World → Prop} (hgd : o.guard = none) (s x : Operand) (t : TypeId)
    (ho : o.op = .call { callee := .builtin .append, args := #[s, x], argTypes := #[t, t] })
    (base : Nat) (e : TypeId) (i : TypeInfo) (z : Value) (size bytes : Nat) (ht : P.underlying t = some (.slice e)) (hi : P.info? e = some i) (hz : i.zero = some z)
    (hsize : i.size = size) (hby : i.bytes = bytes) (hzs : z.cells.size = size) (hsz : 0 < size)
    (v : Value) (n : Nat) (xs : List Value) (hs : a.eval s = v) (hown : w.ownsRow base e size v n xs)
    (ad : Addr) (m c : Nat) (news : List Value) (hx : a.eval x = .slice (some ad) m c) (hl : news.length = m * size) (hnews : ∀ j u, news[j]? = some u → w.cell? (ad.add j) = some u) (h1 : ∀ u ∈ news, u.oneCell' = true)
    (h63 : n + m ≤ maxLen) (hbytes : (n + m) * bytes ≤ 140737488355328) (hbase : base ≤ w.heap.size)
    (h : ∀ v' w', w'.ownsRow base e size v' (n + m) (xs ++ news) → w.grownBy w' v.ownBlock → (v'.ownBlock = v.ownBlock ∨ v'.ownBlock = some w.heap.size) → wpList P ops Q rest (a.put o.dst v') w') : wpList P ops Q (o :: rest) a w := by
  refine wpList_plain hgd fun K hK => ?_
  obtain ⟨v', w', hr, h2, h3, h4⟩ := run_append_own (P := P) w base t o.type e i z size bytes ht hi hz hsize hby hzs hsz v n xs hown ad m c news hl hnews h1 h63 hbytes hbase
  have h5 := run_append_block (P := P) w base t o.type e i z size bytes ht hi hz hsize hby v n xs hown ad m c news hl hnews h1 h63 hbytes hr
  unfold Oper.wp execOp
  simp only [ho, resolve, invoke, builtin, Sem.run_bind, Sem.run_pure, Result.andThen_ok, List.map_toArray, List.map_cons, List.map_nil, hs, hx, hr]
  exact hK _ _ (h v' w' h2 h3 h5)
theorem RdB.cells' {w : World} {B : Nat} {A : Option Addr} {l : List Int} (h : RdB w B A l) : ∀ ad, A = some ad → ∀ j u, (bcells l)[j]? = some u → w.cell? (ad.add j) = some u := by
  intro ad hA j u hu
  rw [bcells_get] at hu
  obtain ⟨v, hv, rfl⟩ := Option.map_eq_some_iff.1 hu
  obtain ⟨b', off', e, hb, hc⟩ := h _ _ hv
  rw [hA] at e
  cases e
  have hadd : (⟨b', off', none⟩ : Addr).add j = ⟨b', off' + j, none⟩ := by unfold Addr.add; split <;> simp_all
  rw [hadd]; exact hc
theorem OwnB.none {w : World} {base : Nat} {A : Option Addr} {n c : Nat} {l : List Int} (h : OwnB w base A n c l) : A = .none → n = 0 ∧ c = 0 := by
  intro hA
  rcases h.2.2 with ⟨hv, hn'⟩ | ⟨g, cap', cur, hv, _⟩
  · injection hv with ha hn hc
    exact ⟨hn', hc⟩
  · injection hv with ha _ _
    rw [hA] at ha; cases ha
/-- A row that holds something lies at the head of a block of the call's own. -/
theorem OwnB.form {w : World} {base : Nat} {A : Option Addr} {n cap : Nat} {l : List Int} (h : OwnB w base A n cap l) (hn : 0 < n) : ∃ g, A = some ⟨g, 0, .none⟩ ∧ base ≤ g ∧ g < w.heap.size ∧ n ≤ cap ∧ cap ≤ maxLen := by
  obtain ⟨hl, h1, h2⟩ := h
  rcases h2 with ⟨hv, hn'⟩ | ⟨g, cap', cur, hv, hbg, hg, hnc, hcm, _⟩
  · omega
  · injection hv with ha _ hc
    subst hc
    exact ⟨g, ha, hbg, (Array.getElem?_eq_some_iff.1 hg).1, hnc, hcm⟩
def icells (l : List Int) : List Value := l.map (Value.int .i64)
theorem icells_get (l : List Int) (k : Nat) : (icells l)[k]? = (l[k]?).map (Value.int .i64) := by simp [icells]
theorem icells_one (l : List Int) : ∀ u ∈ icells l, u.oneCell' = true := by
  intro u hu
  obtain ⟨x, _, rfl⟩ := List.mem_map.1 hu
  rfl
/-- A slice of numbers that reads as a list, nil let in. -/
def RdI (w : World) (B : Nat) (A : Option Addr) (l : List Int) : Prop :=
  ∀ k v, l[k]? = some v → ∃ b off, A = some ⟨b, off, none⟩ ∧ b < B ∧ w.cell? ⟨b, off + k, none⟩ = some (.int .i64 v)
theorem RdI.keep {w w' : World} {B : Nat} {A : Option Addr} {l : List Int} (h : RdI w B A l) (hk : ∀ p : Addr, p.block < B → w'.cell? p = w.cell? p) : RdI w' B A l := by
  intro k s hs
  obtain ⟨b, off, e, hb, h0⟩ := h k s hs
  exact ⟨b, off, e, hb, (hk _ hb).trans h0⟩
theorem RdI.below {w w' : World} {B B' : Nat} {A : Option Addr} {l : List Int} (h : RdI w B A l) (hb : Below B' w w') (hB : B ≤ B') : RdI w' B A l := h.keep fun _ hp => hb.cell (by omega)
theorem RdI.more {w : World} {B B' : Nat} {A : Option Addr} {l : List Int} (h : RdI w B A l) (hB : B ≤ B') : RdI w B' A l := by
  intro k s hs
  obtain ⟨b, off, e, hb, hh⟩ := h k s hs
  exact ⟨b, off, e, by omega, hh⟩
theorem RdI.up {w w' : World} {A : Option Addr} {l : List Int} (h : RdI w w.heap.size A l) (hb : Below w.heap.size w w') : RdI w' w'.heap.size A l := (h.below hb (Nat.le_refl _)).more hb.size
theorem RdI.alloc {w : World} {B : Nat} {A : Option Addr} {l : List Int} (h : RdI w B A l) (hB : B ≤ w.heap.size) (o : Obj) : RdI (w.alloc o) B A l := h.keep fun p hp => World.cell?_alloc_lt w o p (by omega)
theorem RdI.nil (w : World) (B : Nat) (A : Option Addr) : RdI w B A [] := fun k s hs => by simp at hs
theorem RdI.drewN {w : World} {B : Nat} {A : Option Addr} {l : List Int} (h : RdI w B A l) (n : Nat) : RdI (w.drewN n) B A l := h
/-- A piece of a row that is not empty. -/
theorem RdI.piece {w : World} {B b off : Nat} {l : List Int} (h : RdI w B (some ⟨b, off, none⟩) l) (i n : Nat) : RdI w B (some ⟨b, off + i, none⟩) ((l.drop i).take n) := by
  intro k v hv
  rw [List.getElem?_take] at hv
  split at hv
  · rw [List.getElem?_drop] at hv
    obtain ⟨b', off', e, hb, hc⟩ := h _ _ hv
    cases e
    exact ⟨b, off + i, rfl, hb, by rw [Nat.add_assoc]; exact hc⟩
  · cases hv
theorem RdI.cells {w : World} {B b off : Nat} {l : List Int} (h : RdI w B (some ⟨b, off, none⟩) l) : ∀ j u, (icells l)[j]? = some u → w.cell? ((⟨b, off, none⟩ : Addr).add j) = some u := by
  intro j u hu
  rw [icells_get] at hu
  obtain ⟨v, hv, rfl⟩ := Option.map_eq_some_iff.1 hu
  obtain ⟨b', off', e, hb, hc⟩ := h _ _ hv
  cases e
  have hadd : (⟨b, off, none⟩ : Addr).add j = ⟨b, off + j, none⟩ := by unfold Addr.add; split <;> simp_all
  rw [hadd]; exact hc
/-- The call's own row of numbers. -/
def OwnI (w : World) (base : Nat) (A : Option Addr) (n cap : Nat) (l : List Int) : Prop := l.length = n ∧ w.ownsRow base 3 1 (.slice A n cap) n (icells l)
theorem OwnI.rd {w : World} {base : Nat} {A : Option Addr} {n cap : Nat} {l : List Int} (h : OwnI w base A n cap l) : RdI w w.heap.size A l := by
  obtain ⟨hl, h⟩ := h
  intro k s hs
  have hk : k < l.length := (List.getElem?_eq_some_iff.1 hs).1
  have h2 := h.2
  rcases h2 with ⟨hv, hn⟩ | ⟨g, cap', cur, hv, hbg, hg, hr⟩
  · omega
  · injection hv with ha hn hc
    subst ha; subst hc
    have hlt : g < w.heap.size := (Array.getElem?_eq_some_iff.1 hg).1
    refine ⟨g, 0, rfl, hlt, ?_⟩
    rw [h.cellAt _ (by omega), icells_get, Nat.zero_add, hs]; rfl
theorem OwnI.nil (w : World) (base : Nat) : OwnI w base none 0 0 [] := ⟨rfl, World.ownsRow_nil _ _ _ _⟩
theorem OwnI.below {w w' : World} {base : Nat} {A : Option Addr} {n cap B : Nat} {l : List Int} (h : OwnI w base A n cap l) (hb : Below B w w') (hB : w.heap.size ≤ B) : OwnI w' base A n cap l :=
  ⟨h.1, h.2.kept (row := none) ⟨hb.os, hb.tape, hb.output, hb.size, fun k hk _ => hb.block k (by omega)⟩ (by cases A <;> simp [Value.ownBlock])⟩
theorem OwnI.alloc {w : World} {base : Nat} {A : Option Addr} {n cap : Nat} {l : List Int} (h : OwnI w base A n cap l) (o : Obj) : OwnI (w.alloc o) base A n cap l := ⟨h.1, h.2.alloc o⟩
theorem OwnI.drewN {w : World} {base : Nat} {A : Option Addr} {n cap : Nat} {l : List Int} (h : OwnI w base A n cap l) (k : Nat) : OwnI (w.drewN k) base A n cap l := h
theorem OwnI.mono {w : World} {base base' : Nat} {A : Option Addr} {n cap : Nat} {l : List Int} (h : OwnI w base A n cap l) (hB : base' ≤ base) : OwnI w base' A n cap l := by
  obtain ⟨h0, h1, h2⟩ := h
  refine ⟨h0, h1, ?_⟩
  rcases h2 with h2 | ⟨g, cap', cur, hv, hbg, hr⟩
  · exact .inl h2
  · exact .inr ⟨g, cap', cur, hv, by omega, hr⟩
theorem OwnI.cap {w : World} {base : Nat} {A : Option Addr} {n cap : Nat} {l : List Int} (h : OwnI w base A n cap l) : n ≤ cap ∧ cap ≤ maxLen := by
  obtain ⟨hl, h1, h2⟩ := h
  rcases h2 with ⟨hv, hn'⟩ | ⟨g, cap', cur, hv, hbg, hg, hnc, hcm, _⟩
  · injection hv with _ hn hc
    subst hc; omega
  · injection hv with ha _ hc
    subst hc
    exact ⟨hnc, hcm⟩
theorem ext_of_ownI {w' : World} {base : Nat} {v : Value} {n : Nat} {xs : List Value} (h : w'.ownsRow base 3 1 v n xs) : ∃ A cap, v = .slice A n cap := by
  rcases h.2 with ⟨hv, hn⟩ | ⟨g, cap', cur, hv, _⟩
  · subst hn; exact ⟨_, _, hv⟩
  · exact ⟨_, _, hv⟩
/-- Behind an append of numbers to the call's own row. -/
theorem appI_step {w wr W0 w1 : World} {BB n m c : Nat} {A' : Option Addr} {L K : List Int} {v' : Value} (hown : OwnI wr BB A' n c L) (hb : Below BB w wr) (hsz : BB ≤ wr.heap.size)
    (hW : Below wr.heap.size wr W0) (hK : K.length = m) (hown' : w1.ownsRow BB 3 1 v' (n+m) (icells L ++ icells K)) (hg : W0.grownBy w1 (Value.slice A' n c).ownBlock) :
    (∃ A'' c'', v' = .slice A'' (n+m) c'' ∧ OwnI w1 BB A'' (n+m) c'' (L ++ K)) ∧ Below BB w w1 ∧ Below BB wr w1 ∧ W0.heap.size ≤ w1.heap.size ∧ (∀ g o, wr.heap.size ≤ g → g < W0.heap.size → w1.cell? ⟨g, o, none⟩ = W0.cell? ⟨g, o, none⟩) := by
  have hr : ∀ k, (Value.slice A' n c).ownBlock = some k → BB ≤ k ∧ k < wr.heap.size := hown.2.lt
  refine ⟨?_, ?_, (hW.mono hsz).grown hg (by have := hW.size; omega) (fun k hk => (hr k hk).1), hg.size, ?_⟩
  · obtain ⟨A'', c'', rfl⟩ := ext_of_ownI hown'
    exact ⟨A'', c'', rfl, by simp [hown.1, hK], by simpa [icells] using hown'⟩
  · exact (hb.trans (hW.mono hsz)).grown hg (by have := hW.size; omega) (fun k hk => (hr k hk).1)
  · intro g o h1 h2
    exact World.cell?_of_block (w := W0) (a := ⟨g, o, none⟩) (hg.block g h2 (fun e => by have := (hr g e.symm).2; omega))
theorem newi_one (w : World) (v : Int) (g : Nat) (hg : g = w.heap.size) : ∀ j u, (icells [v])[j]? = some u → (w.alloc (.cells #[.int .i64 v] 3)).cell? ((⟨g, 0, none⟩ : Addr).add j) = some u := by
  subst hg
  intro j u hu
  have hadd : (⟨w.heap.size, 0, none⟩ : Addr).add j = ⟨w.heap.size, j, none⟩ := by unfold Addr.add; split <;> simp_all
  rw [hadd, cell_new]
  simpa [icells] using hu

theorem RdI.cells' {w : World} {B : Nat} {A : Option Addr} {l : List Int} (h : RdI w B A l) : ∀ ad, A = some ad → ∀ j u, (icells l)[j]? = some u → w.cell? (ad.add j) = some u := by
  intro ad hA j u hu
  rw [icells_get] at hu
  obtain ⟨v, hv, rfl⟩ := Option.map_eq_some_iff.1 hu
  obtain ⟨b', off', e, hb, hc⟩ := h _ _ hv
  rw [hA] at e
  cases e
  have hadd : (⟨b', off', none⟩ : Addr).add j = ⟨b', off' + j, none⟩ := by unfold Addr.add; split <;> simp_all
  rw [hadd]; exact hc
theorem OwnI.none {w : World} {base : Nat} {A : Option Addr} {n c : Nat} {l : List Int} (h : OwnI w base A n c l) : A = .none → n = 0 ∧ c = 0 := by
  intro hA
  rcases h.2.2 with ⟨hv, hn'⟩ | ⟨g, cap', cur, hv, _⟩
  · injection hv with ha hn hc
    exact ⟨hn', hc⟩
  · injection hv with ha _ _
    rw [hA] at ha; cases ha
end Go.Proofs.Ytlplhllcohoeaaa
