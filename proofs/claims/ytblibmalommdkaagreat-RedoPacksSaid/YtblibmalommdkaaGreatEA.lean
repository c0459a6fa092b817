/-
  EA: texts of one kind, one behind the other.
-/
import Derived.WalkKit
import Derived.WalkSpells
import Derived.ProofKit
import Derived.Lib.Hide
import Derived.Laws.AppendOwnNone
import Derived.Deep.Draws
import Derived.OwnWalk
import Derived.Laws.BitsLemmas
import Derived.Lib.EndianBits
import Derived.Test.YtblibmalommdkaaGreatRows
import Derived.Outline
import Derived.BigQuiet
import Derived.Deep.QuietTactic
import Derived.Deep.DeepCutAuto
import Derived.WalkLawsBesides
import Derived.Handy
import Derived.Laws.AppendOwn
import Derived.Laws.OwnMore
import Derived.ArgAppend
import Derived.Deep.RegionWith
import Derived.Lib.SlBytesConst
/-
  Slices of bytes and of numbers in memory: read, owned; appends. No program in sight.
-/
namespace Go.Proofs.YtblibmalommdkaaGreat.Re
open Go.RowKit
theorem take_snoc {α : Type} (l : List α) (k : Nat) (s : α) (h : l[k]? = some s) : l.take (k+1) = l.take k ++ [s] := by
  rw [List.take_add_one, h]; rfl
theorem get_some {α : Type} (l : List α) (k : Nat) (h : k < l.length) : ∃ s, l[k]? = some s := ⟨_, List.getElem?_eq_getElem h⟩

theorem cell_new (w : World) (cs : Array Value) (t : TypeId) (j : Nat) : (w.alloc (.cells cs t)).cell? ⟨w.heap.size, j, none⟩ = cs[j]? := cell_of_row _ _ j cs t (0, 0) (heap_alloc_new w _)
theorem ret_int {k : IntKind} {a b : Int} (h : a = b) : Ending.returned (.int k a) = .returned (.int k b) := by rw [h]
theorem ret_bool {a b : Bool} (h : a = b) : Ending.returned (.bool a) = .returned (.bool b) := by rw [h]
theorem belowDrewN {B : Nat} {a w : World} (h : Below B a w) (n : Nat) : Below B a (w.drewN n) := ⟨h.os, h.tape, h.output, h.size, h.block⟩
theorem below_up {w w1 w2 : World} (h : Below w.heap.size w w1) (h' : Below w1.heap.size w1 w2) : Below w.heap.size w w2 := h.trans (h'.mono h.size)
def bcells (l : List Int) : List Value := l.map (Value.int .u8)
theorem bcells_get (l : List Int) (k : Nat) : (bcells l)[k]? = (l[k]?).map (Value.int .u8) := by simp [bcells]
theorem bcells_one (l : List Int) : ∀ u ∈ bcells l, u.oneCell' = true := by
  intro u hu
  obtain ⟨x, _, rfl⟩ := List.mem_map.1 hu
  rfl
/-- A slice of bytes that reads as a list, nil let in. -/
def RdB (w : World) (B : Nat) (A : Option Addr) (l : List Int) : Prop :=
  ∀ k v, l[k]? = some v → ∃ b off, A = some ⟨b, off, none⟩ ∧ b < B ∧ w.cell? ⟨b, off + k, none⟩ = some (.int .u8 v)
theorem RdB.keep {w w' : World} {B : Nat} {A : Option Addr} {l : List Int} (h : RdB w B A l) (hk : ∀ p : Addr, p.block < B → w'.cell? p = w.cell? p) : RdB w' B A l := by
  intro k s hs
  obtain ⟨b, off, e, hb, h0⟩ := h k s hs
  exact ⟨b, off, e, hb, (hk _ hb).trans h0⟩
theorem RdB.below {w w' : World} {B B' : Nat} {A : Option Addr} {l : List Int} (h : RdB w B A l) (hb : Below B' w w') (hB : B ≤ B') : RdB w' B A l := h.keep fun _ hp => hb.cell (by omega)
theorem RdB.more {w : World} {B B' : Nat} {A : Option Addr} {l : List Int} (h : RdB w B A l) (hB : B ≤ B') : RdB w B' A l := by
  intro k s hs
  obtain ⟨b, off, e, hb, hh⟩ := h k s hs
  exact ⟨b, off, e, by omega, hh⟩
theorem RdB.up {w w' : World} {A : Option Addr} {l : List Int} (h : RdB w w.heap.size A l) (hb : Below w.heap.size w w') : RdB w' w'.heap.size A l := (h.below hb (Nat.le_refl _)).more hb.size
theorem RdB.alloc {w : World} {B : Nat} {A : Option Addr} {l : List Int} (h : RdB w B A l) (hB : B ≤ w.heap.size) (o : Obj) : RdB (w.alloc o) B A l := h.keep fun p hp => World.cell?_alloc_lt w o p (by omega)
theorem RdB.nil (w : World) (B : Nat) (A : Option Addr) : RdB w B A [] := fun k s hs => by simp at hs
theorem RdB.drewN {w : World} {B : Nat} {A : Option Addr} {l : List Int} (h : RdB w B A l) (n : Nat) : RdB (w.drewN n) B A l := h
/-- A piece of a row that is not empty. -/
theorem RdB.piece {w : World} {B b off : Nat} {l : List Int} (h : RdB w B (some ⟨b, off, none⟩) l) (i n : Nat) : RdB w B (some ⟨b, off + i, none⟩) ((l.drop i).take n) := by
  intro k v hv
  rw [List.getElem?_take] at hv
  split at hv
  · rw [List.getElem?_drop] at hv
    obtain ⟨b', off', e, hb, hc⟩ := h _ _ hv
    cases e
    exact ⟨b, off + i, rfl, hb, by rw [Nat.add_assoc]; exact hc⟩
  · cases hv
theorem RdB.cells {w : World} {B b off : Nat} {l : List Int} (h : RdB w B (some ⟨b, off, none⟩) l) : ∀ j u, (bcells l)[j]? = some u → w.cell? ((⟨b, off, none⟩ : Addr).add j) = some u := by
  intro j u hu
  rw [bcells_get] at hu
  obtain ⟨v, hv, rfl⟩ := Option.map_eq_some_iff.1 hu
  obtain ⟨b', off', e, hb, hc⟩ := h _ _ hv
  cases e
  have hadd : (⟨b, off, none⟩ : Addr).add j = ⟨b, off + j, none⟩ := by unfold Addr.add; split <;> simp_all
  rw [hadd]; exact hc
/-- The call's own row of bytes. -/
def OwnB (w : World) (base : Nat) (A : Option Addr) (n cap : Nat) (l : List Int) : Prop := l.length = n ∧ w.ownsRow base 5 1 (.slice A n cap) n (bcells l)
theorem OwnB.rd {w : World} {base : Nat} {A : Option Addr} {n cap : Nat} {l : List Int} (h : OwnB w base A n cap l) : RdB w w.heap.size A l := by
  obtain ⟨hl, h⟩ := h
  intro k s hs
  have hk : k < l.length := (List.getElem?_eq_some_iff.1 hs).1
  have h2 := h.2
  rcases h2 with ⟨hv, hn⟩ | ⟨g, cap', cur, hv, hbg, hg, hr⟩
  · omega
  · injection hv with ha hn hc
    subst ha; subst hc
    have hlt : g < w.heap.size := (Array.getElem?_eq_some_iff.1 hg).1
    refine ⟨g, 0, rfl, hlt, ?_⟩
    rw [h.cellAt _ (by omega), bcells_get, Nat.zero_add, hs]; rfl
theorem OwnB.nil (w : World) (base : Nat) : OwnB w base none 0 0 [] := ⟨rfl, World.ownsRow_nil _ _ _ _⟩
theorem OwnB.below {w w' : World} {base : Nat} {A : Option Addr} {n cap B : Nat} {l : List Int} (h : OwnB w base A n cap l) (hb : Below B w w') (hB : w.heap.size ≤ B) : OwnB w' base A n cap l :=
  ⟨h.1, h.2.kept (row := none) ⟨hb.os, hb.tape, hb.output, hb.size, fun k hk _ => hb.block k (by omega)⟩ (by cases A <;> simp [Value.ownBlock])⟩
theorem OwnB.alloc {w : World} {base : Nat} {A : Option Addr} {n cap : Nat} {l : List Int} (h : OwnB w base A n cap l) (o : Obj) : OwnB (w.alloc o) base A n cap l := ⟨h.1, h.2.alloc o⟩
theorem OwnB.drewN {w : World} {base : Nat} {A : Option Addr} {n cap : Nat} {l : List Int} (h : OwnB w base A n cap l) (k : Nat) : OwnB (w.drewN k) base A n cap l := h
theorem OwnB.mono {w : World} {base base' : Nat} {A : Option Addr} {n cap : Nat} {l : List Int} (h : OwnB w base A n cap l) (hB : base' ≤ base) : OwnB w base' A n cap l := by
  obtain ⟨h0, h1, h2⟩ := h
  refine ⟨h0, h1, ?_⟩
  rcases h2 with h2 | ⟨g, cap', cur, hv, hbg, hr⟩
  · exact .inl h2
  · exact .inr ⟨g, cap', cur, hv, by omega, hr⟩
theorem OwnB.cap {w : World} {base : Nat} {A : Option Addr} {n cap : Nat} {l : List Int} (h : OwnB w base A n cap l) : n ≤ cap ∧ cap ≤ maxLen := by
  obtain ⟨hl, h1, h2⟩ := h
  rcases h2 with ⟨hv, hn'⟩ | ⟨g, cap', cur, hv, hbg, hg, hnc, hcm, _⟩
  · injection hv with _ hn hc
    subst hc; omega
  · injection hv with ha _ hc
    subst hc
    exact ⟨hnc, hcm⟩
theorem ext_of_ownB {w' : World} {base : Nat} {v : Value} {n : Nat} {xs : List Value} (h : w'.ownsRow base 5 1 v n xs) : ∃ A cap, v = .slice A n cap := by
  rcases h.2 with ⟨hv, hn⟩ | ⟨g, cap', cur, hv, _⟩
  · subst hn; exact ⟨_, _, hv⟩
  · exact ⟨_, _, hv⟩
/-- Behind an append of bytes to the call's own row. -/
theorem appB_step {w wr W0 w1 : World} {BB n m c : Nat} {A' : Option Addr} {L K : List Int} {v' : Value} (hown : OwnB wr BB A' n c L) (hb : Below BB w wr) (hsz : BB ≤ wr.heap.size)
    (hW : Below wr.heap.size wr W0) (hK : K.length = m) (hown' : w1.ownsRow BB 5 1 v' (n+m) (bcells L ++ bcells K)) (hg : W0.grownBy w1 (Value.slice A' n c).ownBlock) :
    (∃ A'' c'', v' = .slice A'' (n+m) c'' ∧ OwnB w1 BB A'' (n+m) c'' (L ++ K)) ∧ Below BB w w1 ∧ Below BB wr w1 ∧ W0.heap.size ≤ w1.heap.size ∧ (∀ g o, wr.heap.size ≤ g → g < W0.heap.size → w1.cell? ⟨g, o, none⟩ = W0.cell? ⟨g, o, none⟩) := by
  have hr : ∀ k, (Value.slice A' n c).ownBlock = some k → BB ≤ k ∧ k < wr.heap.size := hown.2.lt
  refine ⟨?_, ?_, (hW.mono hsz).grown hg (by have := hW.size; omega) (fun k hk => (hr k hk).1), hg.size, ?_⟩
  · obtain ⟨A'', c'', rfl⟩ := ext_of_ownB hown'
    exact ⟨A'', c'', rfl, by simp [hown.1, hK], by simpa [bcells] using hown'⟩
  · exact (hb.trans (hW.mono hsz)).grown hg (by have := hW.size; omega) (fun k hk => (hr k hk).1)
  · intro g o h1 h2
    exact World.cell?_of_block (w := W0) (a := ⟨g, o, none⟩) (hg.block g h2 (fun e => by have := (hr g e.symm).2; omega))
theorem newb_one (w : World) (v : Int) (g : Nat) (hg : g = w.heap.size) : ∀ j u, (bcells [v])[j]? = some u → (w.alloc (.cells #[.int .u8 v] 5)).cell? ((⟨g, 0, none⟩ : Addr).add j) = some u := by
  subst hg
  intro j u hu
  have hadd : (⟨w.heap.size, 0, none⟩ : Addr).add j = ⟨w.heap.size, j, none⟩ := by unfold Addr.add; split <;> simp_all
  rw [hadd, cell_new]
  simpa [bcells] using hu

theorem wpList_append_any {P : Program} {w : World} {ops : Array Oper} {rest : List Oper} {o : Oper} {a : Act} {Q : Exit → Act → World → Prop} (hgd : o.guard = none) (s x : Operand) (t : TypeId)
    (ho : o.op = .call { callee := .builtin .append, args := #[s, x], argTypes := #[t, t] })
    (base : Nat) (e : TypeId) (i : TypeInfo) (z : Value) (size bytes : Nat) (ht : P.underlying t = some (.slice e)) (hi : P.info? e = some i) (hz : i.zero = some z)
    (hsize : i.size = size) (hby : i.bytes = bytes) (hzs : z.cells.size = size) (hsz : 0 < size)
    (v : Value) (n : Nat) (xs : List Value) (hs : a.eval s = v) (hown : w.ownsRow base e size v n xs)
    (A : Option Addr) (m c : Nat) (news : List Value) (hx : a.eval x = .slice A m c) (hnone : A = none → m = 0 ∧ c = 0) (hl : news.length = m * size) (hnews : ∀ ad, A = some ad → ∀ j u, news[j]? = some u → w.cell? (ad.add j) = some u) (h1 : ∀ u ∈ news, u.oneCell' = true)
    (h63 : n + m ≤ maxLen) (hbytes : (n + m) * bytes ≤ 140737488355328) (hbase : base ≤ w.heap.size)
    (h : ∀ v' w', w'.ownsRow base e size v' (n + m) (xs ++ news) → w.grownBy w' v.ownBlock → wpList P ops Q rest (a.put o.dst v') w') : wpList P ops Q (o :: rest) a w := by
  cases A with
  | none =>
    obtain ⟨rfl, rfl⟩ := hnone rfl
    have hn : news = [] := List.eq_nil_of_length_eq_zero (by simpa using hl)
    subst hn
    refine wpList_append_own_none hgd s x t ho base e i size ht hi v n xs hs hown hx (h v w ?_ (World.grownBy.refl _ _))
    simpa using hown
  | some ad =>
    exact wpList_append_own w hgd s x t ho base e i z size bytes ht hi hz hsize hby hzs hsz v n xs hs hown ad m c news hx hl (hnews ad rfl) h1 h63 hbytes hbase (fun v' w' h1 h2 _ => h v' w' h1 h2)
/-- Where an append to a row of the call's own leaves the row. -/
theorem run_append_block {P : Program} (w : World) (base : Nat) (t ty e : TypeId) (i : TypeInfo) (z : Value) (size bytes : Nat) (ht : P.underlying t = some (.slice e)) (hi : P.info? e = some i) (hz : i.zero = some z)
    (hsize : i.size = size) (hby : i.bytes = bytes) (v : Value) (n : Nat) (xs : List Value) (hown : w.ownsRow base e size v n xs)
    (a : Addr) (m c : Nat) (news : List Value) (hl : news.length = m * size) (hnews : ∀ j u, news[j]? = some u → w.cell? (a.add j) = some u) (h1 : ∀ u ∈ news, u.oneCell' = true)
    (h63 : n + m ≤ maxLen) (hbytes : (n + m) * bytes ≤ 140737488355328) {v' : Value} {w' : World} (hr : (Builtin.append_ #[t, t] ty #[v, .slice (some a) m c]).run P w = .ok v' w') :
    v'.ownBlock = v.ownBlock ∨ v'.ownBlock = some w.heap.size := by
  subst hsize
  subst hby
  have hsmall : n + m ≤ 9223372036854775807 := by simp only [maxLen] at h63; omega
  rcases hown.2 with ⟨rfl, rfl⟩ | ⟨g, cap, cur, rfl, hbg, hg, hnc, hcm, hcs, htake⟩
  · by_cases hm : m = 0
    · subst hm
      left
      have hn : news = [] := List.eq_nil_of_length_eq_zero (by simpa using hl)
      subst hn
      have hx : (Builtin.append_ #[t, t] ty #[.slice none 0 0, .slice (some a) 0 c]).run P w = .ok (.slice none 0 0) w := by
        simp [Builtin.append_, run_underlying ht, sizeOf, typeInfo, hi, Builtin.lenOf, Builtin.firstCells, loadCells, loadCellsFrom]
      rw [hx] at hr
      injection hr with h2 _
      rw [← h2]
    · right
      have hx := run_append_nil (P := P) w t ty e i z ht hi hz a m c news hl hnews (by omega) (by omega) (by simp only [Nat.zero_add] at hbytes; omega)
      rw [hx] at hr
      injection hr with h2 _
      rw [← h2]; rfl
  · by_cases hroom : n + m ≤ cap
    · left
      have hfit : n * i.size + news.length ≤ cur.size := by rw [hl, hcs, ← Nat.add_mul]; exact Nat.mul_le_mul_right _ hroom
      have hx := run_append_room (P := P) w t ty e i ht hi g n cap cur hg a m c news hl hnews h1 hroom hfit
      rw [hx] at hr
      injection hr with h2 _
      rw [← h2]; rfl
    · right
      have holds : ∀ j u, xs[j]? = some u → w.cell? ((⟨g, 0, none⟩ : Addr).add j) = some u := hown.cells (g := g) rfl
      have hx := run_append_grow (P := P) w t ty e i z ht hi hz ⟨g, 0, none⟩ n cap xs hown.1 holds a m c news hl hnews (by omega) (by omega) (growslice_fits (by omega) hbytes)
      rw [hx] at hr
      injection hr with h2 _
      rw [← h2]; rfl
theorem wpList_append_block {P : Program} {w : World} {ops : Array Oper} {rest : List Oper} {o : Oper} {a : Act} {Q : Exit → Act → World → Prop} (hgd : o.guard = none) (s x : Operand) (t : TypeId)
    (ho : o.op = .call { callee := .builtin .append, args := #[s, x], argTypes := #[t, t] })
    (base : Nat) (e : TypeId) (i : TypeInfo) (z : Value) (size bytes : Nat) (ht : P.underlying t = some (.slice e)) (hi : P.info? e = some i) (hz : i.zero = some z)
    (hsize : i.size = size) (hby : i.bytes = bytes) (hzs : z.cells.size = size) (hsz : 0 < size)
    (v : Value) (n : Nat) (xs : List Value) (hs : a.eval s = v) (hown : w.ownsRow base e size v n xs)
    (ad : Addr) (m c : Nat) (news : List Value) (hx : a.eval x = .slice (some ad) m c) (hl : news.length = m * size) (hnews : ∀ j u, news[j]? = some u → w.cell? (ad.add j) = some u) (h1 : ∀ u ∈ news, u.oneCell' = true)
    (h63 : n + m ≤ maxLen) (hbytes : (n + m) * bytes ≤ 140737488355328) (hbase : base ≤ w.heap.size)
    (h : ∀ v' w', w'.ownsRow base e size v' (n + m) (xs ++ news) → w.grownBy w' v.ownBlock → (v'.ownBlock = v.ownBlock ∨ v'.ownBlock = some w.heap.size) → wpList P ops Q rest (a.put o.dst v') w') : wpList P ops Q (o :: rest) a w := by
  refine wpList_plain hgd fun K hK => ?_
  obtain ⟨v', w', hr, h2, h3, h4⟩ := run_append_own (P := P) w base t o.type e i z size bytes ht hi hz hsize hby hzs hsz v n xs hown ad m c news hl hnews h1 h63 hbytes hbase
  have h5 := run_append_block (P := P) w base t o.type e i z size bytes ht hi hz hsize hby v n xs hown ad m c news hl hnews h1 h63 hbytes hr
  unfold Oper.wp execOp
  simp only [ho, resolve, invoke, builtin, Sem.run_bind, Sem.run_pure, Result.andThen_ok, List.map_toArray, List.map_cons, List.map_nil, hs, hx, hr]
  exact hK _ _ (h v' w' h2 h3 h5)
theorem RdB.cells' {w : World} {B : Nat} {A : Option Addr} {l : List Int} (h : RdB w B A l) : ∀ ad, A = some ad → ∀ j u, (bcells l)[j]? = some u → w.cell? (ad.add j) = some u := by
  intro ad hA j u hu
  rw [bcells_get] at hu
  obtain ⟨v, hv, rfl⟩ := Option.map_eq_some_iff.1 hu
  obtain ⟨b', off', e, hb, hc⟩ := h _ _ hv
  rw [hA] at e
  cases e
  have hadd : (⟨b', off', none⟩ : Addr).add j = ⟨b', off' + j, none⟩ := by unfold Addr.add; split <;> simp_all
  rw [hadd]; exact hc
theorem OwnB.none {w : World} {base : Nat} {A : Option Addr} {n c : Nat} {l : List Int} (h : OwnB w base A n c l) : A = .none → n = 0 ∧ c = 0 := by
  intro hA
  rcases h.2.2 with ⟨hv, hn'⟩ | ⟨g, cap', cur, hv, _⟩
  · injection hv with ha hn hc
    exact ⟨hn', hc⟩
  · injection hv with ha _ _
    rw [hA] at ha; cases ha
/-- A row that holds something lies at the head of a block of the call's own. -/
theorem OwnB.form {w : World} {base : Nat} {A : Option Addr} {n cap : Nat} {l : List Int} (h : OwnB w base A n cap l) (hn : 0 < n) : ∃ g, A = some ⟨g, 0, .none⟩ ∧ base ≤ g ∧ g < w.heap.size ∧ n ≤ cap ∧ cap ≤ maxLen := by
  obtain ⟨hl, h1, h2⟩ := h
  rcases h2 with ⟨hv, hn'⟩ | ⟨g, cap', cur, hv, hbg, hg, hnc, hcm, _⟩
  · omega
  · injection hv with ha _ hc
    subst hc
    exact ⟨g, ha, hbg, (Array.getElem?_eq_some_iff.1 hg).1, hnc, hcm⟩
def icells (l : List Int) : List Value := l.map (Value.int .i64)
theorem icells_get (l : List Int) (k : Nat) : (icells l)[k]? = (l[k]?).map (Value.int .i64) := by simp [icells]
theorem icells_one (l : List Int) : ∀ u ∈ icells l, u.oneCell' = true := by
  intro u hu
  obtain ⟨x, _, rfl⟩ := List.mem_map.1 hu
  rfl
/-- A slice of numbers that reads as a list, nil let in. -/
def RdI (w : World) (B : Nat) (A : Option Addr) (l : List Int) : Prop :=
  ∀ k v, l[k]? = some v → ∃ b off, A = some ⟨b, off, none⟩ ∧ b < B ∧ w.cell? ⟨b, off + k, none⟩ = some (.int .i64 v)
theorem RdI.keep {w w' : World} {B : Nat} {A : Option Addr} {l : List Int} (h : RdI w B A l) (hk : ∀ p : Addr, p.block < B → w'.cell? p = w.cell? p) : RdI w' B A l := by
  intro k s hs
  obtain ⟨b, off, e, hb, h0⟩ := h k s hs
  exact ⟨b, off, e, hb, (hk _ hb).trans h0⟩
theorem RdI.below {w w' : World} {B B' : Nat} {A : Option Addr} {l : List Int} (h : RdI w B A l) (hb : Below B' w w') (hB : B ≤ B') : RdI w' B A l := h.keep fun _ hp => hb.cell (by omega)
theorem RdI.more {w : World} {B B' : Nat} {A : Option Addr} {l : List Int} (h : RdI w B A l) (hB : B ≤ B') : RdI w B' A l := by
  intro k s hs
  obtain ⟨b, off, e, hb, hh⟩ := h k s hs
  exact ⟨b, off, e, by omega, hh⟩
theorem RdI.up {w w' : World} {A : Option Addr} {l : List Int} (h : RdI w w.heap.size A l) (hb : Below w.heap.size w w') : RdI w' w'.heap.size A l := (h.below hb (Nat.le_refl _)).more hb.size
theorem RdI.alloc {w : World} {B : Nat} {A : Option Addr} {l : List Int} (h : RdI w B A l) (hB : B ≤ w.heap.size) (o : Obj) : RdI (w.alloc o) B A l := h.keep fun p hp => World.cell?_alloc_lt w o p (by omega)
theorem RdI.nil (w : World) (B : Nat) (A : Option Addr) : RdI w B A [] := fun k s hs => by simp at hs
theorem RdI.drewN {w : World} {B : Nat} {A : Option Addr} {l : List Int} (h : RdI w B A l) (n : Nat) : RdI (w.drewN n) B A l := h
/-- A piece of a row that is not empty. -/
theorem RdI.piece {w : World} {B b off : Nat} {l : List Int} (h : RdI w B (some ⟨b, off, none⟩) l) (i n : Nat) : RdI w B (some ⟨b, off + i, none⟩) ((l.drop i).take n) := by
  intro k v hv
  rw [List.getElem?_take] at hv
  split at hv
  · rw [List.getElem?_drop] at hv
    obtain ⟨b', off', e, hb, hc⟩ := h _ _ hv
    cases e
    exact ⟨b, off + i, rfl, hb, by rw [Nat.add_assoc]; exact hc⟩
  · cases hv
theorem RdI.cells {w : World} {B b off : Nat} {l : List Int} (h : RdI w B (some ⟨b, off, none⟩) l) : ∀ j u, (icells l)[j]? = some u → w.cell? ((⟨b, off, none⟩ : Addr).add j) = some u := by
  intro j u hu
  rw [icells_get] at hu
  obtain ⟨v, hv, rfl⟩ := Option.map_eq_some_iff.1 hu
  obtain ⟨b', off', e, hb, hc⟩ := h _ _ hv
  cases e
  have hadd : (⟨b, off, none⟩ : Addr).add j = ⟨b, off + j, none⟩ := by unfold Addr.add; split <;> simp_all
  rw [hadd]; exact hc
/-- The call's own row of numbers. -/
def OwnI (w : World) (base : Nat) (A : Option Addr) (n cap : Nat) (l : List Int) : Prop := l.length = n ∧ w.ownsRow base 3 1 (.slice A n cap) n (icells l)
theorem OwnI.rd {w : World} {base : Nat} {A : Option Addr} {n cap : Nat} {l : List Int} (h : OwnI w base A n cap l) : RdI w w.heap.size A l := by
  obtain ⟨hl, h⟩ := h
  intro k s hs
  have hk : k < l.length := (List.getElem?_eq_some_iff.1 hs).1
  have h2 := h.2
  rcases h2 with ⟨hv, hn⟩ | ⟨g, cap', cur, hv, hbg, hg, hr⟩
  · omega
  · injection hv with ha hn hc
    subst ha; subst hc
    have hlt : g < w.heap.size := (Array.getElem?_eq_some_iff.1 hg).1
    refine ⟨g, 0, rfl, hlt, ?_⟩
    rw [h.cellAt _ (by omega), icells_get, Nat.zero_add, hs]; rfl
theorem OwnI.nil (w : World) (base : Nat) : OwnI w base none 0 0 [] := ⟨rfl, World.ownsRow_nil _ _ _ _⟩
theorem OwnI.below {w w' : World} {base : Nat} {A : Option Addr} {n cap B : Nat} {l : List Int} (h : OwnI w base A n cap l) (hb : Below B w w') (hB : w.heap.size ≤ B) : OwnI w' base A n cap l :=
  ⟨h.1, h.2.kept (row := none) ⟨hb.os, hb.tape, hb.output, hb.size, fun k hk _ => hb.block k (by omega)⟩ (by cases A <;> simp [Value.ownBlock])⟩
theorem OwnI.alloc {w : World} {base : Nat} {A : Option Addr} {n cap : Nat} {l : List Int} (h : OwnI w base A n cap l) (o : Obj) : OwnI (w.alloc o) base A n cap l := ⟨h.1, h.2.alloc o⟩
theorem OwnI.drewN {w : World} {base : Nat} {A : Option Addr} {n cap : Nat} {l : List Int} (h : OwnI w base A n cap l) (k : Nat) : OwnI (w.drewN k) base A n cap l := h
theorem OwnI.mono {w : World} {base base' : Nat} {A : Option Addr} {n cap : Nat} {l : List Int} (h : OwnI w base A n cap l) (hB : base' ≤ base) : OwnI w base' A n cap l := by
  obtain ⟨h0, h1, h2⟩ := h
  refine ⟨h0, h1, ?_⟩
  rcases h2 with h2 | ⟨g, cap', cur, hv, hbg, hr⟩
  · exact .inl h2
  · exact .inr ⟨g, cap', cur, hv, by omega, hr⟩
theorem OwnI.cap {w : World} {base : Nat} {A : Option Addr} {n cap : Nat} {l : List Int} (h : OwnI w base A n cap l) : n ≤ cap ∧ cap ≤ maxLen := by
  obtain ⟨hl, h1, h2⟩ := h
  rcases h2 with ⟨hv, hn'⟩ | ⟨g, cap', cur, hv, hbg, hg, hnc, hcm, _⟩
  · injection hv with _ hn hc
    subst hc; omega
  · injection hv with ha _ hc
    subst hc
    exact ⟨hnc, hcm⟩
theorem ext_of_ownI {w' : World} {base : Nat} {v : Value} {n : Nat} {xs : List Value} (h : w'.ownsRow base 3 1 v n xs) : ∃ A cap, v = .slice A n cap := by
  rcases h.2 with ⟨hv, hn⟩ | ⟨g, cap', cur, hv, _⟩
  · subst hn; exact ⟨_, _, hv⟩
  · exact ⟨_, _, hv⟩
/-- Behind an append of numbers to the call's own row. -/
theorem appI_step {w wr W0 w1 : World} {BB n m c : Nat} {A' : Option Addr} {L K : List Int} {v' : Value} (hown : OwnI wr BB A' n c L) (hb : Below BB w wr) (hsz : BB ≤ wr.heap.size)
    (hW : Below wr.heap.size wr W0) (hK : K.length = m) (hown' : w1.ownsRow BB 3 1 v' (n+m) (icells L ++ icells K)) (hg : W0.grownBy w1 (Value.slice A' n c).ownBlock) :
    (∃ A'' c'', v' = .slice A'' (n+m) c'' ∧ OwnI w1 BB A'' (n+m) c'' (L ++ K)) ∧ Below BB w w1 ∧ Below BB wr w1 ∧ W0.heap.size ≤ w1.heap.size ∧ (∀ g o, wr.heap.size ≤ g → g < W0.heap.size → w1.cell? ⟨g, o, none⟩ = W0.cell? ⟨g, o, none⟩) := by
  have hr : ∀ k, (Value.slice A' n c).ownBlock = some k → BB ≤ k ∧ k < wr.heap.size := hown.2.lt
  refine ⟨?_, ?_, (hW.mono hsz).grown hg (by have := hW.size; omega) (fun k hk => (hr k hk).1), hg.size, ?_⟩
  · obtain ⟨A'', c'', rfl⟩ := ext_of_ownI hown'
    exact ⟨A'', c'', rfl, by simp [hown.1, hK], by simpa [icells] using hown'⟩
  · exact (hb.trans (hW.mono hsz)).grown hg (by have := hW.size; omega) (fun k hk => (hr k hk).1)
  · intro g o h1 h2
    exact World.cell?_of_block (w := W0) (a := ⟨g, o, none⟩) (hg.block g h2 (fun e => by have := (hr g e.symm).2; omega))
theorem newi_one (w : World) (v : Int) (g : Nat) (hg : g = w.heap.size) : ∀ j u, (icells [v])[j]? = some u → (w.alloc (.cells #[.int .i64 v] 3)).cell? ((⟨g, 0, none⟩ : Addr).add j) = some u := by
  subst hg
  intro j u hu
  have hadd : (⟨w.heap.size, 0, none⟩ : Addr).add j = ⟨w.heap.size, j, none⟩ := by unfold Addr.add; split <;> simp_all
  rw [hadd, cell_new]
  simpa [icells] using hu

theorem RdI.cells' {w : World} {B : Nat} {A : Option Addr} {l : List Int} (h : RdI w B A l) : ∀ ad, A = some ad → ∀ j u, (icells l)[j]? = some u → w.cell? (ad.add j) = some u := by
  intro ad hA j u hu
  rw [icells_get] at hu
  obtain ⟨v, hv, rfl⟩ := Option.map_eq_some_iff.1 hu
  obtain ⟨b', off', e, hb, hc⟩ := h _ _ hv
  rw [hA] at e
  cases e
  have hadd : (⟨b', off', none⟩ : Addr).add j = ⟨b', off' + j, none⟩ := by unfold Addr.add; split <;> simp_all
  rw [hadd]; exact hc
theorem OwnI.none {w : World} {base : Nat} {A : Option Addr} {n c : Nat} {l : List Int} (h : OwnI w base A n c l) : A = .none → n = 0 ∧ c = 0 := by
  intro hA
  rcases h.2.2 with ⟨hv, hn'⟩ | ⟨g, cap', cur, hv, _⟩
  · injection hv with ha hn hc
    exact ⟨hn', hc⟩
  · injection hv with ha _ _
    rw [hA] at ha; cases ha
end Go.Proofs.YtblibmalommdkaaGreat.Re

/-
  The checksum of 32 bits, plain: its step can be undone, so bytes that differ in one place have other sums.
-/
namespace Go.Proofs.YtblibmalommdkaaGreat.Re
def polyN : Nat := 3988292384
def stepN (s : Nat) : Nat := if s % 2 = 1 then (s / 2) ^^^ 3988292384 else s / 2
theorem stepN_lt {s : Nat} (h : s < 4294967296) : stepN s < 4294967296 := by
  unfold stepN
  split
  · exact Nat.xor_lt_two_pow (n := 32) (by omega) (by decide)
  · omega
def unstepN (t : Nat) : Nat := if t < 2147483648 then 2 * t else 2 * (t ^^^ 3988292384) + 1
theorem xor_high {a : Nat} (h : a < 2147483648) : 2147483648 ≤ a ^^^ 3988292384 := by
  have h1 : (a ^^^ 3988292384).testBit 31 = true := by
    rw [Nat.testBit_xor, Nat.testBit_lt_two_pow (show a < 2 ^ 31 from h)]
    decide
  exact Nat.ge_two_pow_of_testBit h1
theorem unstep_step {s : Nat} (h : s < 4294967296) : unstepN (stepN s) = s := by
  unfold stepN
  split
  · have h1 := xor_high (show s / 2 < 2147483648 by omega)
    unfold unstepN
    rw [if_neg (by omega), Nat.xor_assoc, Nat.xor_self, Nat.xor_zero]
    omega
  · unfold unstepN
    rw [if_pos (by omega)]
    omega
theorem stepN_inj {s t : Nat} (hs : s < 4294967296) (ht : t < 4294967296) (h : stepN s = stepN t) : s = t := by
  rw [← unstep_step hs, h, unstep_step ht]
def stepsN : Nat → Nat → Nat
  | 0, s => s
  | k+1, s => stepsN k (stepN s)
theorem stepsN_succ (k s : Nat) : stepsN (k+1) s = stepN (stepsN k s) := by
  induction k generalizing s with
  | zero => rfl
  | succ k ih => exact ih (stepN s)
theorem stepsN_lt (k : Nat) {s : Nat} (h : s < 4294967296) : stepsN k s < 4294967296 := by
  induction k generalizing s with
  | zero => exact h
  | succ k ih => exact ih (stepN_lt h)
theorem stepsN_inj (k : Nat) {s t : Nat} (hs : s < 4294967296) (ht : t < 4294967296) (h : stepsN k s = stepsN k t) : s = t := by
  induction k generalizing s t with
  | zero => exact h
  | succ k ih => exact stepN_inj hs ht (ih (stepN_lt hs) (stepN_lt ht) h)
/-- A sum moved on by bytes. -/
def crcGo (s : Nat) (l : List Int) : Nat := l.foldl (fun s b => stepsN 8 (s ^^^ b.toNat)) s
theorem crcGo_snoc (s : Nat) (l : List Int) (b : Int) : crcGo s (l ++ [b]) = stepsN 8 (crcGo s l ^^^ b.toNat) := by simp [crcGo]
theorem crcGo_append (s : Nat) (l m : List Int) : crcGo s (l ++ m) = crcGo (crcGo s l) m := by simp [crcGo]
def Byte (b : Int) : Prop := 0 ≤ b ∧ b ≤ 255
def Bytes (l : List Int) : Prop := ∀ b ∈ l, 0 ≤ b ∧ b ≤ 255
theorem xorB_lt {s : Nat} {b : Int} (h : s < 4294967296) (hb : 0 ≤ b ∧ b ≤ 255) : s ^^^ b.toNat < 4294967296 := Nat.xor_lt_two_pow (n := 32) (by omega) (by omega)
theorem crcGo_lt {s : Nat} (l : List Int) (h : s < 4294967296) (hl : Bytes l) : crcGo s l < 4294967296 := by
  induction l generalizing s with
  | nil => exact h
  | cons b l ih => exact ih (stepsN_lt 8 (xorB_lt h (hl b (by simp)))) (fun c hc => hl c (by simp [hc]))
theorem crcGo_inj {s t : Nat} (l : List Int) (hs : s < 4294967296) (ht : t < 4294967296) (hl : Bytes l) (h : crcGo s l = crcGo t l) : s = t := by
  induction l generalizing s t with
  | nil => exact h
  | cons b l ih =>
    have hb := hl b (by simp)
    have h1 := ih (stepsN_lt 8 (xorB_lt hs hb)) (stepsN_lt 8 (xorB_lt ht hb)) (fun c hc => hl c (by simp [hc])) h
    have h2 := stepsN_inj 8 (xorB_lt hs hb) (xorB_lt ht hb) h1
    have h3 : (s ^^^ b.toNat) ^^^ b.toNat = (t ^^^ b.toNat) ^^^ b.toNat := by rw [h2]
    simpa [Nat.xor_assoc] using h3
def crcOf (l : List Int) : Nat := crcGo 4294967295 l ^^^ 4294967295
theorem crcOf_lt {l : List Int} (hl : Bytes l) : crcOf l < 4294967296 := Nat.xor_lt_two_pow (n := 32) (crcGo_lt l (by decide) hl) (by decide)
theorem crc_turned (l m : List Int) (b c : Int) (hl : Bytes l) (hm : Bytes m) (hb : 0 ≤ b ∧ b ≤ 255) (hc : 0 ≤ c ∧ c ≤ 255) (hne : b ≠ c) : crcOf (l ++ b :: m) ≠ crcOf (l ++ c :: m) := by
  intro h
  unfold crcOf at h
  have h0 : crcGo 4294967295 (l ++ b :: m) = crcGo 4294967295 (l ++ c :: m) := by
    have h3 : (crcGo 4294967295 (l ++ b :: m) ^^^ 4294967295) ^^^ 4294967295 = (crcGo 4294967295 (l ++ c :: m) ^^^ 4294967295) ^^^ 4294967295 := by rw [h]
    simpa [Nat.xor_assoc] using h3
  rw [crcGo_append, crcGo_append] at h0
  have hs := crcGo_lt l (show (4294967295 : Nat) < 4294967296 by decide) hl
  have h1 := crcGo_inj m (stepsN_lt 8 (xorB_lt hs hb)) (stepsN_lt 8 (xorB_lt hs hc)) hm h0
  have h2 := stepsN_inj 8 (xorB_lt hs hb) (xorB_lt hs hc) h1
  have h4 : b.toNat = c.toNat := by
    have h3 : crcGo 4294967295 l ^^^ (crcGo 4294967295 l ^^^ b.toNat) = crcGo 4294967295 l ^^^ (crcGo 4294967295 l ^^^ c.toNat) := by rw [h2]
    simpa [← Nat.xor_assoc] using h3
  omega
open Go
theorem bits_xor_nat (k : IntKind) (j : Nat) (hj : j ≤ k.bits) (hk : ∀ n : Int, 0 ≤ n → n < 2 ^ j → k.wrap n = n) (a b : Nat) (ha : a < 2 ^ j) (hb : b < 2 ^ j) : bits .xor k a b = ((a ^^^ b : Nat) : Int) := by
  have hp : 2 ^ j ≤ 2 ^ k.bits := Nat.pow_le_pow_right (by decide) hj
  have ha' : a % 2 ^ k.bits = a := Nat.mod_eq_of_lt (Nat.lt_of_lt_of_le ha hp)
  have hb' : b % 2 ^ k.bits = b := Nat.mod_eq_of_lt (Nat.lt_of_lt_of_le hb hp)
  have cast : ∀ n : Nat, n < 2 ^ j → ((n : Nat) : Int) < 2 ^ j := fun n h => by exact_mod_cast h
  simp only [bits, BitVec.ofInt_natCast, BitVec.toNat_xor, BitVec.toNat_ofNat, ha', hb']
  exact hk _ (Int.natCast_nonneg _) (cast _ (Nat.xor_lt_two_pow ha hb))
theorem xor32 (a b : Nat) (ha : a < 4294967296) (hb : b < 4294967296) : bits .xor .u32 (a : Int) (b : Int) = ((a ^^^ b : Nat) : Int) := bits_xor_nat .u32 32 (by decide) wraps_u32 a b ha hb
theorem and1_32 (a : Nat) (ha : a < 4294967296) : bits .and .u32 (a : Int) 1 = ((a % 2 : Nat) : Int) := by
  have := bits_mask .u32 32 (by decide) wraps_u32 1 (by decide) (a : Int) (by omega) (by omega)
  simpa using this
theorem xor_ones {a : Nat} (h : a < 4294967296) : a ^^^ 4294967295 = 4294967295 - a := by
  apply Nat.eq_of_testBit_eq
  intro i
  have e : 4294967295 - a = 2 ^ 32 - (a + 1) := by omega
  rw [e, Nat.testBit_two_pow_sub_succ (n := 32) h, Nat.testBit_xor, show (4294967295 : Nat) = 2 ^ 32 - 1 from rfl, Nat.testBit_two_pow_sub_one]
  by_cases hi : i < 32
  · simp [hi]
  · simp [hi, Nat.testBit_lt_two_pow (Nat.lt_of_lt_of_le (show a < 2 ^ 32 from h) (Nat.pow_le_pow_right (by decide) (by omega : 32 ≤ i)))]
end Go.Proofs.YtblibmalommdkaaGreat.Re

/-
  'append(x, make([]byte, m)...)', on a row of the call's own that holds something. No program in sight.
-/
namespace Go.Proofs.YtblibmalommdkaaGreat.Re
open Go.RowKit
theorem zeroCells_one (z : Value) (n : Nat) : (Builtin.zeroCells #[z] n).toList = List.replicate n z := by
  simp only [Builtin.zeroCells, List.size_toArray, List.length_cons, List.length_nil, Nat.zero_add, Nat.mul_one, Nat.mod_one]
  simp [List.map_const']
theorem zeros_grown (w : World) (base : Nat) (e : TypeId) (need old : Nat) (xs news : List Value) (z : Value) (hn : (xs ++ news).length = need) (hbase : base ≤ w.heap.size) (h63 : need ≤ maxLen) (row : Option Nat) :
    (w.drew.alloc (.cells (xs.toArray ++ news.toArray ++ Builtin.zeroCells #[z] (grownCap w need old e - need)) e)).ownsRow base e 1 (.slice (some ⟨w.heap.size, 0, none⟩) need (grownCap w need old e)) need (xs ++ news) ∧
      w.grownBy (w.drew.alloc (.cells (xs.toArray ++ news.toArray ++ Builtin.zeroCells #[z] (grownCap w need old e - need)) e)) row := by
  have hge := grownCap_ge w need old e
  have hcm : grownCap w need old e ≤ maxLen := grownCap_le_maxLen w need old e h63
  have hlen := hn
  rw [List.length_append] at hlen
  refine ⟨⟨by omega, .inr ⟨w.heap.size, _, _, rfl, hbase, heap_alloc_new w.drew _, hge, hcm, ?_, ?_⟩⟩, ⟨rfl, rfl, rfl, by simp, fun k hk _ => heap_alloc_old w.drew _ hk⟩⟩
  · simp only [Array.size_append, List.size_toArray, size_zeroCells, List.length_cons, List.length_nil]
    omega
  · simp only [Array.toList_append, List.append_assoc]
    rw [← List.append_assoc, Nat.mul_one, ← hn]
    exact List.take_left
theorem run_append_zeros {P : Program} (w : World) (base : Nat) (t ti ty e : TypeId) (i : TypeInfo) (z : Value) (q : IntKind) (ht : P.underlying t = some (.slice e)) (hti : P.underlying ti = some (.int q)) (hi : P.info? e = some i) (hz : i.zero = some z)
    (hsize : i.size = 1) (hby : i.bytes = 1) (hzs : z.cells = #[z]) (hone : z.oneCell' = true) (g n cap : Nat) (xs : List Value) (hown : w.ownsRow base e 1 (.slice (some ⟨g, 0, none⟩) n cap) n xs) (m : Nat) (hm : 0 < m) (hm2 : m ≤ 1073741824) (hn : n ≤ 1073741824) (hbase : base ≤ w.heap.size) :
    ∃ v' w', (Builtin.append_ #[t, ti] ty #[.slice (some ⟨g, 0, none⟩) n cap, .int .i64 (m : Int)]).run P w = .ok v' w' ∧ w'.ownsRow base e 1 v' (n + m) (xs ++ List.replicate m z) ∧ w.grownBy w' (some g) ∧ (v'.ownBlock = some g ∨ v'.ownBlock = some w.heap.size) := by
  rcases hown.2 with ⟨hv, _⟩ | ⟨g', cap', cur, hv, hbg, hg, hnc, hcm, hcs, htake⟩
  · cases hv
  · injection hv with ha _ hc
    injection ha with ha
    injection ha with hgg _ _
    subst hgg; subst hc
    have hl : (Builtin.zeroCells #[z] m).toList = List.replicate m z := zeroCells_one z m
    have hla : Builtin.zeroCells #[z] m = (List.replicate m z).toArray := by rw [← hl]
    have hwr : IntKind.i64.wrap (m : Int) = m := by rw [IntKind.wrap_i64]; omega
    have h48 : ¬ (281474976710656 < (m : Int)) := by omega
    have hx : xs.length = n := by simpa using hown.1
    have hlen : (xs ++ List.replicate m z).length = n + m := by rw [List.length_append, hx]; simp
    have hm0 : ¬ (m = 0) := by omega
    have hneg : ¬ ((m : Int) < 0) := by omega
    have hasI : ∀ W, Sem.run P (asInt (Value.int IntKind.i64 (m : Int))) W = .ok (m : Int) W := fun W => rfl
    by_cases hroom : n + m ≤ cap
    · have hfit : n + m ≤ cur.size := by omega
      have hst := run_storeCells_at P g n e (List.replicate m z) 0 cur w hg (by simpa using hfit) (fun u hu => by rw [List.eq_of_mem_replicate hu]; exact hone)
      simp only [Nat.add_zero] at hst
      refine ⟨.slice (some ⟨g, 0, none⟩) (n + m) cap, w.setRow g (cur.toList.take n ++ List.replicate m z ++ cur.toList.drop (n + m)).toArray, ?_, ⟨by simpa using hlen, .inr ⟨g, cap, _, rfl, hbg, setRow_heap w g cur _ e _ hg, hroom, hcm, ?_, ?_⟩⟩, ⟨rfl, rfl, rfl, by simp, fun k _ hk => setRow_other w g k _ (fun e => hk (by simp [e]))⟩, .inl rfl⟩
      · simp [Builtin.append_, run_underlying ht, run_underlying hti, sizeOf, typeInfo, hi, hsize, hby, hz, zeroValue, hzs, hl, hwr, hroom, hm0, Addr.add_lit, hst, hasI, h48, hneg]
      · simp; omega
      · simp only [Nat.mul_one]
        rw [show cur.toList.take n = xs by simpa using htake]
        rw [List.toList_toArray, ← hlen]
        exact List.take_left
    · have holds : ∀ j u, xs[j]? = some u → w.cell? ((⟨g, 0, none⟩ : Addr).add j) = some u := hown.cells (g := g) rfl
      have hfo := run_firstCells_some (P := P) w.drew 1 n ⟨g, 0, none⟩ n cap xs (by simpa using hx) (by simpa using holds)
      have hgr := zeros_grown w base e (n + m) cap xs (List.replicate m z) z hlen hbase (by unfold maxLen; omega) (some g)
      have h63' : ¬ (9223372036854775807 < (n : Int) + (m : Int)) := by omega
      have h48' : ¬ (281474976710656 < Builtin.nextslicecap (n + m) cap) := by
        have := growslice_fits (need := n + m) (old := cap) (bytes := 1) (by omega) (by omega)
        omega
      refine ⟨_, _, ?_, hgr.1, hgr.2, .inr rfl⟩
      simp [Builtin.append_, run_underlying ht, run_underlying hti, sizeOf, typeInfo, hi, hsize, hby, hz, zeroValue, hzs, hwr, hroom, hm0, hasI, h48, hneg, h48', h63', Question.forced, hfo, newRow, grownCap, hla]
theorem wpList_append_zeros {P : Program} {w : World} {ops : Array Oper} {rest : List Oper} {o : Oper} {a : Act} {Q : Exit → Act → World → Prop} (hgd : o.guard = none) (s x : Operand) (t ti : TypeId)
    (ho : o.op = .call { callee := .builtin .append, args := #[s, x], argTypes := #[t, ti] })
    (base : Nat) (e : TypeId) (i : TypeInfo) (z : Value) (q : IntKind) (ht : P.underlying t = some (.slice e)) (hti : P.underlying ti = some (.int q)) (hi : P.info? e = some i) (hz : i.zero = some z)
    (hsize : i.size = 1) (hby : i.bytes = 1) (hzs : z.cells = #[z]) (hone : z.oneCell' = true)
    (g n cap : Nat) (xs : List Value) (hs : a.eval s = .slice (some ⟨g, 0, none⟩) n cap) (hown : w.ownsRow base e 1 (.slice (some ⟨g, 0, none⟩) n cap) n xs)
    (m : Nat) (hx : a.eval x = .int .i64 (m : Int)) (hm : 0 < m) (hm2 : m ≤ 1073741824) (hn : n ≤ 1073741824) (hbase : base ≤ w.heap.size)
    (h : ∀ v' w', w'.ownsRow base e 1 v' (n + m) (xs ++ List.replicate m z) → w.grownBy w' (some g) → (v'.ownBlock = some g ∨ v'.ownBlock = some w.heap.size) → wpList P ops Q rest (a.put o.dst v') w') : wpList P ops Q (o :: rest) a w := by
  refine wpList_plain hgd fun K hK => ?_
  obtain ⟨v', w', hr, h2, h3, h4⟩ := run_append_zeros (P := P) w base t ti o.type e i z q ht hti hi hz hsize hby hzs hone g n cap xs hown m hm hm2 hn hbase
  unfold Oper.wp execOp
  simp only [ho, resolve, invoke, builtin, Sem.run_bind, Sem.run_pure, Result.andThen_ok, List.map_toArray, List.map_cons, List.map_nil, hs, hx, hr]
  exact hK _ _ (h v' w' h2 h3 h4)
end Go.Proofs.YtblibmalommdkaaGreat.Re

/-
  What the reference's Copy, Lent, Kept and Same answer, of bytes.
-/
namespace Go.Proofs.YtblibmalommdkaaGreat.Re
open Go.RowKit
theorem info5 : (Tryz.prog.info? 5).map (fun i => (i.zero, i.size, i.bytes)) = some (some (.int .u8 0), 1, 1) := by kernel_rfl
theorem info3 : (Tryz.prog.info? 3).map (fun i => (i.zero, i.size, i.bytes)) = some (some (.int .i64 0), 1, 8) := by kernel_rfl
def mk3 : List Int := [165, 90, 165]
theorem RdB.left {w : World} {B : Nat} {A : Option Addr} {l m : List Int} (h : RdB w B A (l ++ m)) : RdB w B A l := by
  intro k s hs
  exact h k s (by rw [List.getElem?_append_left ((List.getElem?_eq_some_iff.1 hs).1)]; exact hs)
theorem newb_three (w : World) (g : Nat) (hg : g = w.heap.size) : ∀ j u, (bcells mk3)[j]? = some u → (w.alloc (.cells #[.int .u8 165, .int .u8 90, .int .u8 165] 5)).cell? ((⟨g, 0, none⟩ : Addr).add j) = some u := by
  subst hg
  intro j u hu
  have hadd : (⟨w.heap.size, 0, none⟩ : Addr).add j = ⟨w.heap.size, j, none⟩ := by unfold Addr.add; split <;> simp_all
  rw [hadd, cell_new]
  simpa [bcells, mk3] using hu
set_option maxRecDepth 100000 in
theorem Same_true (A : Option Addr) (len cap : Nat) (A2 : Option Addr) (len2 cap2 : Nat) (w : World) (l : List Int) (hlen : l.length = len) (hr : RdB w w.heap.size A l) (hm : len ≤ 9223372036854775807) (hlen2 : len2 = len) (hr2 : RdB w w.heap.size A2 l) :
    Calls Tryz.prog 15 #[.slice A len cap, .slice A2 len2 cap2] w fun e w' => e = .returned (.bool true) ∧ Below w.heap.size w w' := by
  subst hlen2
  have H := Lib.hid hlen; have HR := Lib.hid hr; have HR2 := Lib.hid hr2
  clear hlen hr hr2
  go_enter Tryz.func15, Tryz.ntmps15
  go_wp2_with fail
  go_loopw [5] (fun i wr => ∃ k : Nat, k ≤ len2 ∧ i = .int .i64 k ∧ Below w.heap.size w wr) (fun i _ => len2 - (intOf i).toNat)
  case atStart => exact ⟨0, Nat.zero_le _, rfl, Below.refl _ _⟩
  case round =>
    obtain ⟨k, hk, rfl, hb⟩ := hrel
    by_cases hlt : k < len2
    · obtain ⟨s, hs⟩ := get_some l k (by have := H.out; omega)
      obtain ⟨b, off, rfl, hb', h0⟩ := HR.out.below hb (by omega) k s hs
      obtain ⟨b2, off2, rfl, hb2', g0⟩ := HR2.out.below hb (by omega) k s hs
      clear hs
      go_wp2_with fail
      go_quiet (fail)
      go_wp2_with fail
      go_roundw
      case rel => exact ⟨k+1, by omega, by go_num, belowDrewN hb _⟩
      case measure => simp [intOf]; omega
    · obtain rfl : k = len2 := by omega
      clear hlt
      go_wp2_with fail
      go_ret
      exact ⟨rfl, hb⟩
set_option maxRecDepth 100000 in
theorem Copy_any (A : Option Addr) (len cap : Nat) (w : World) (l : List Int) (hlen : l.length = len) (hr : RdB w w.heap.size A l) (hm : len ≤ 140737488355328) :
    Calls Tryz.prog 19 #[.slice A len cap] w fun e w' => (∃ A' c, e = .returned (.slice A' len c) ∧ OwnB w' w.heap.size A' len c l) ∧ Below w.heap.size w w' := by
  obtain ⟨i0, hi, hz0, hz1, hz2⟩ := info_parts info5
  have H := Lib.hid hlen; have HR := Lib.hid hr
  clear hlen hr
  go_enter Tryz.func19, Tryz.ntmps19
  go_wp2_with fail
  generalize hBB : w.heap.size = BB at *
  have HB := Lib.hid hBB; clear hBB
  go_loopw [3, 4] (fun v i wr => ∃ k A' c, k ≤ len ∧ i = .int .i64 k ∧ v = .slice A' k c ∧ OwnB wr BB A' k c (l.take k) ∧ Below BB w wr) (fun _ i _ => len - (intOf i).toNat)
  case atStart => exact ⟨0, _, _, Nat.zero_le _, rfl, rfl, OwnB.nil _ _, Below.refl _ _⟩
  case round =>
    obtain ⟨k, A', c, hk, rfl, rfl, hown, hb⟩ := hrel
    have HO := Lib.hid hown
    have HBel := Lib.hid hb
    by_cases hlt : k < len
    · obtain ⟨x, hx⟩ := get_some l k (by have := H.out; omega)
      obtain ⟨b2, off2, rfl, hb2, c0⟩ := HR.out.below hb (Nat.le_refl _) k x hx
      have hsz : BB ≤ wr.heap.size := by have := hb.size; have := HB.out; omega
      have HT := Lib.hid (take_snoc l k x hx)
      clear hx hown hb
      go_wp2_with (at_builtin; refine wpList_append_own _ rfl _ _ 22 rfl BB 5 i0 _ 1 1 Tryz.underlying22 hi hz0 hz1 hz2 rfl (by decide) _ _ _ rfl (HO.out.alloc _).2 ⟨wr.heap.size, 0, none⟩ 1 1 (bcells [x]) rfl rfl (newb_one _ x _ rfl) (bcells_one _) (by unfold maxLen; omega) (by omega) (by simp; omega) ?_)
      intro v' w1 hown' hgrow _
      obtain ⟨⟨A'', c'', hv, hown2⟩, hb3, hst, hz3, hcl⟩ := appB_step HO.out HBel.out hsz ((Below.refl _ _).alloc (Nat.le_refl _) _) (m := 1) (K := [x]) rfl hown' hgrow
      rw [hv]
      clear hcl hgrow hown' hv
      go_wp2_with fail
      go_roundw
      case rel => exact ⟨k+1, A'', c'', by omega, by go_num, rfl, by rw [HT.out]; exact hown2, hb3⟩
      case measure => simp [intOf]; omega
    · obtain rfl : k = len := by omega
      clear hlt
      have e2 : l.take k = l := by rw [List.take_of_length_le (Nat.le_of_eq H.out)]
      rw [e2] at hown
      go_wp2_with fail
      go_ret
      obtain rfl := HB.out
      exact ⟨⟨_, _, rfl, hown⟩, HBel.out⟩
set_option maxRecDepth 100000 in
theorem Lent_any (A : Option Addr) (len cap : Nat) (w : World) (l : List Int) (hlen : l.length = len) (hr : RdB w w.heap.size A l) (hm : len + 3 ≤ 140737488355328) :
    Calls Tryz.prog 6 #[.slice A len cap] w fun e w' => (∃ g c, e = .returned (.slice (some ⟨g, 0, none⟩) len c) ∧ OwnB w' w.heap.size (some ⟨g, 0, none⟩) (len + 3) c (l ++ mk3)) ∧ Below w.heap.size w w' := by
  obtain ⟨i0, hi, hz0, hz1, hz2⟩ := info_parts info5
  have H := Lib.hid hlen; have HR := Lib.hid hr
  clear hlen hr
  go_enter Tryz.func6, Tryz.ntmps6
  go_wp2_with fail
  refine (Copy_any A len cap _ l H.out HR.out (by omega)).mono ?_
  rintro e w1 ⟨⟨A5, c5, rfl, hown5⟩, hb⟩
  have HO5 := Lib.hid hown5
  have HBB := Lib.hid hb
  have hsz5 : w.heap.size ≤ w1.heap.size := hb.size
  clear hown5 hb
  go_wp2_with (at_builtin; refine wpList_append_own _ rfl _ _ 22 rfl w.heap.size 5 i0 _ 1 1 Tryz.underlying22 hi hz0 hz1 hz2 rfl (by decide) _ _ _ rfl (HO5.out.alloc _).2 ⟨w1.heap.size, 0, none⟩ 3 3 (bcells mk3) rfl rfl (newb_three _ _ rfl) (bcells_one _) (by unfold maxLen; omega) (by omega) (by simp; omega) ?_)
  intro v' w2 hown' hgrow _
  obtain ⟨⟨A6, c6, hv, hown6⟩, hbb, _, hsz6, _⟩ := appB_step HO5.out HBB.out hsz5 ((Below.refl _ _).alloc (Nat.le_refl _) _) (m := 3) (K := mk3) rfl hown' hgrow
  obtain ⟨g, rfl, _, _, hc6, hc7⟩ := hown6.form (by omega)
  have HO6 := Lib.hid hown6
  have HB6 := Lib.hid hbb
  unfold maxLen at hc7
  have hc8 : len ≤ c6 := by omega
  rw [hv]
  clear hown' hgrow hv hown6 hbb hsz6
  go_wp2_with fail
  go_ret
  exact ⟨⟨_, _, rfl, HO6.out⟩, HB6.out⟩
set_option maxRecDepth 100000 in
theorem Kept_any (A : Option Addr) (len cap : Nat) (A2 : Option Addr) (cap2 : Nat) (w : World) (l : List Int) (hlen : l.length = len) (hr : RdB w w.heap.size A (l ++ mk3)) (hcap : len + 3 ≤ cap) (hcap2 : cap ≤ 9223372036854775807) (hr2 : RdB w w.heap.size A2 l) :
    Calls Tryz.prog 10 #[.slice A len cap, .slice A2 len cap2] w fun e w' => e = .returned (.bool true) ∧ Below w.heap.size w w' := by
  have H := Lib.hid hlen; have HR := Lib.hid hr; have HR2 := Lib.hid hr2
  clear hlen hr hr2
  go_enter Tryz.func10, Tryz.ntmps10
  go_wp2_with fail
  refine (Same_true A len cap A2 len cap2 _ l H.out HR.out.left (by omega) rfl HR2.out).mono ?_
  rintro e w1 ⟨rfl, hb⟩
  have HB1 := Lib.hid hb
  have hrd := HR.out.up hb
  have hget : ∀ j : Nat, (l ++ mk3)[len + j]? = mk3[j]? := fun j => by rw [List.getElem?_append_right (by have := H.out; omega), H.out]; congr 1; omega
  obtain ⟨b, off, rfl, hb', c0⟩ := hrd (len + 0) 165 (by rw [hget]; rfl)
  obtain ⟨b2, off2, e2, _, c1⟩ := hrd (len+1) 90 (by rw [hget]; rfl)
  cases e2
  obtain ⟨b2, off2, e2, _, c2⟩ := hrd (len+2) 165 (by rw [hget]; rfl)
  cases e2
  rw [Nat.add_zero] at c0
  clear hrd hb hget
  go_wp2_with fail
  go_ret
  exact ⟨rfl, HB1.out⟩
end Go.Proofs.YtblibmalommdkaaGreat.Re

/-
  What the program's and the reference's checksums answer.
-/
namespace Go.Proofs.YtblibmalommdkaaGreat.Re
open Go.RowKit
theorem ret_u32 {a b : Int} (h : a = b) : Ending.returned (.int .u32 a) = .returned (.int .u32 b) := by rw [h]
set_option maxRecDepth 100000 in
theorem step_any (s : Nat) (w : World) (h : s < 4294967296) : Calls Tryz.prog 57 #[.int .u32 (s : Int)] w fun e w' => e = .returned (.int .u32 (stepN s : Int)) ∧ w = w' := by
  have e1 := and1_32 s h
  have e2 := xor32 (s / 2) 3988292384 (by omega) (by decide)
  rw [show ((3988292384 : Nat) : Int) = 3988292384 from rfl, show ((s / 2 : Nat) : Int) = (s : Int) / 2 by omega] at e2
  by_cases ho : s % 2 = 1
  · have E : Hid (((s / 2 ^^^ 3988292384 : Nat) : Int) = (stepN s : Int)) := Lib.hid (by unfold stepN; rw [if_pos ho])
    rw [ho] at e1
    clear ho
    go_enter Tryz.func57, Tryz.ntmps57
    go_wp2_with fail
    go_ret
    exact ⟨ret_u32 E.out, rfl⟩
  · have E : Hid ((s : Int) / 2 = (stepN s : Int)) := Lib.hid (by unfold stepN; rw [if_neg ho]; omega)
    rw [show s % 2 = 0 by omega] at e1
    clear ho e2
    go_enter Tryz.func57, Tryz.ntmps57
    go_wp2_with fail
    go_ret
    exact ⟨ret_u32 E.out, rfl⟩
set_option maxRecDepth 100000 in
theorem move_any (s : Nat) (w : World) (h : s < 4294967296) : Calls Tryz.prog 66 #[.int .u32 (s : Int)] w fun e w' => e = .returned (.int .u32 (stepsN 8 s : Int)) ∧ w = w' := by
  go_enter Tryz.func66, Tryz.ntmps66
  go_wp2_with fail
  go_loopw [0, 3] (fun v i wr => ∃ k : Nat, k ≤ 8 ∧ i = .int .i64 k ∧ v = .int .u32 (stepsN k s : Int) ∧ w = wr) (fun _ i _ => 8 - (intOf i).toNat)
  case atStart => exact ⟨0, by omega, rfl, rfl, rfl⟩
  case round =>
    obtain ⟨k, hk, rfl, rfl, rfl⟩ := hrel
    by_cases hlt : k < 8
    · have HS := Lib.hid (stepsN_succ k s)
      have hx := stepsN_lt k h
      generalize stepsN k s = x at *
      have e2 := xor32 (x / 2) 3988292384 (by omega) (by decide)
      rw [show ((3988292384 : Nat) : Int) = 3988292384 from rfl, show ((x / 2 : Nat) : Int) = (x : Int) / 2 by omega] at e2
      by_cases ho : x % 2 = 1
      · have E : Hid (((x / 2 ^^^ 3988292384 : Nat) : Int) = (stepN x : Int)) := Lib.hid (by unfold stepN; rw [if_pos ho])
        have e1 : (x : Int) % 2 = 1 := by omega
        clear ho
        go_wp2_with fail
        go_roundw
        case rel => exact ⟨k+1, by omega, by go_num, by rw [HS.out, E.out], trivial⟩
        case measure => simp [intOf]; omega
      · have E : Hid ((x : Int) / 2 = (stepN x : Int)) := Lib.hid (by unfold stepN; rw [if_neg ho]; omega)
        have e1 : (x : Int) % 2 = 0 := by omega
        clear ho e2
        go_wp2_with fail
        go_roundw
        case rel => exact ⟨k+1, by omega, by go_num, by rw [HS.out, E.out], trivial⟩
        case measure => simp [intOf]; omega
    · obtain rfl : k = 8 := by omega
      go_wp2_with fail
      go_ret
      exact ⟨rfl, rfl⟩
set_option maxRecDepth 100000 in
theorem crcRef_any (A : Option Addr) (n c : Nat) (w : World) (l : List Int) (hl : l.length = n) (hr : RdB w w.heap.size A l) (hb : Bytes l) (hn : n ≤ 9223372036854775807) :
    Calls Tryz.prog 49 #[.slice A n c] w fun e w' => e = .returned (.int .u32 (crcOf l : Int)) ∧ w = w' := by
  have H := Lib.hid hl; have HR := Lib.hid hr; have HB := Lib.hid hb
  clear hl hr hb
  go_enter Tryz.func49, Tryz.ntmps49
  go_wp2_with fail
  go_loopw [3, 4] (fun v i wr => ∃ k : Nat, k ≤ n ∧ i = .int .i64 k ∧ v = .int .u32 (crcGo 4294967295 (l.take k) : Int) ∧ w = wr) (fun _ i _ => n - (intOf i).toNat)
  case atStart => exact ⟨0, by omega, rfl, by simp [crcGo], rfl⟩
  case round =>
    obtain ⟨k, hk, rfl, rfl, rfl⟩ := hrel
    have hx : crcGo 4294967295 (l.take k) < 4294967296 := crcGo_lt _ (by decide) (fun b hb => HB.out b (List.mem_of_mem_take hb))
    by_cases hlt : k < n
    · obtain ⟨s, hs⟩ := get_some l k (by rw [H.out]; exact hlt)
      obtain ⟨b, off, rfl, hblt, hc0⟩ := HR.out k s hs
      obtain ⟨hs0, hs1⟩ := HB.out s (List.mem_of_getElem? hs)
      have HS : Hid (crcGo 4294967295 (l.take (k+1)) = stepsN 8 (crcGo 4294967295 (l.take k) ^^^ s.toNat)) := Lib.hid (by rw [take_snoc l k s hs, crcGo_snoc])
      have hy := xorB_lt hx ⟨hs0, hs1⟩
      have e1 := xor32 (crcGo 4294967295 (l.take k)) s.toNat hx (by omega)
      rw [show ((s.toNat : Nat) : Int) = s by omega] at e1
      generalize crcGo 4294967295 (l.take k) ^^^ s.toNat = y at *
      clear hs
      go_wp2_with fail
      refine (move_any y _ hy).mono ?_
      rintro e w5 ⟨rfl, rfl⟩
      go_wp2_with fail
      go_roundw
      case rel => exact ⟨k+1, by omega, by go_num, by rw [HS.out], trivial⟩
      case measure => simp [intOf]; omega
    · obtain rfl : n = k := by omega
      have e1 := xor32 (crcGo 4294967295 (l.take n)) 4294967295 hx (by omega)
      rw [show ((4294967295 : Nat) : Int) = 4294967295 from rfl] at e1
      have E : Hid (crcGo 4294967295 (l.take n) ^^^ 4294967295 = crcOf l) := Lib.hid (by rw [List.take_of_length_le (by rw [H.out]; exact Nat.le_refl _)]; rfl)
      clear hlt
      go_wp2_with fail
      go_ret
      exact ⟨ret_u32 (by rw [E.out]), rfl⟩
set_option maxRecDepth 100000 in
theorem crc_any (g : Nat) (cc : Nat) (A : Option Addr) (n c : Nat) (w : World) (l : List Int) (hl : l.length = n) (hr : RdB w w.heap.size A l) (hb : Bytes l) (hn : n ≤ 9223372036854775807) (hg : w.cell? ⟨g, 0, none⟩ = some (.slice A n c)) :
    Calls Tryz.prog 37 #[.slice (some ⟨g, 0, none⟩) 1 cc] w fun e w' => e = .returned (.int .u32 (crcOf l : Int)) ∧ w = w' := by
  have H := Lib.hid hl; have HR := Lib.hid hr; have HB := Lib.hid hb
  clear hl hr hb
  go_enter Tryz.func37, Tryz.ntmps37
  go_wp2_with fail
  go_loopw [3, 10] (fun v i wr => ((i = .int .i64 0 ∧ v = .int .u32 4294967295) ∨ (i = .int .i64 1 ∧ v = .int .u32 (crcGo 4294967295 l : Int))) ∧ w = wr) (fun _ i _ => 1 - (intOf i).toNat)
  case atStart => exact ⟨.inl ⟨rfl, rfl⟩, rfl⟩
  case round =>
    obtain ⟨⟨rfl, rfl⟩ | ⟨rfl, rfl⟩, rfl⟩ := hrel
    · go_wp2_with fail
      go_loopw [3, 16] (fun v i wx => ∃ k : Nat, k ≤ n ∧ i = .int .i64 k ∧ v = .int .u32 (crcGo 4294967295 (l.take k) : Int) ∧ w = wx) (fun _ i _ => n - (intOf i).toNat)
      case atStart => exact ⟨0, by omega, rfl, by simp [crcGo], rfl⟩
      case round =>
        obtain ⟨k, hk, rfl, rfl, rfl⟩ := hrel
        have hx : crcGo 4294967295 (l.take k) < 4294967296 := crcGo_lt _ (by decide) (fun b hb => HB.out b (List.mem_of_mem_take hb))
        by_cases hlt : k < n
        · obtain ⟨s, hs⟩ := get_some l k (by rw [H.out]; exact hlt)
          obtain ⟨b, off, rfl, hblt, hc0⟩ := HR.out k s hs
          obtain ⟨hs0, hs1⟩ := HB.out s (List.mem_of_getElem? hs)
          have HS : Hid (crcGo 4294967295 (l.take (k+1)) = stepsN 8 (crcGo 4294967295 (l.take k) ^^^ s.toNat)) := Lib.hid (by rw [take_snoc l k s hs, crcGo_snoc])
          have hy := xorB_lt hx ⟨hs0, hs1⟩
          have e1 := xor32 (crcGo 4294967295 (l.take k)) s.toNat hx (by omega)
          rw [show ((s.toNat : Nat) : Int) = s by omega] at e1
          generalize crcGo 4294967295 (l.take k) ^^^ s.toNat = y at *
          clear hs
          go_wp2_with fail
          go_loopw [3, 24] (fun v i wx => ∃ q : Nat, q ≤ 8 ∧ i = .int .i64 q ∧ v = .int .u32 (stepsN q y : Int) ∧ w = wx) (fun _ i _ => 8 - (intOf i).toNat)
          case atStart => exact ⟨0, by omega, rfl, rfl, rfl⟩
          case round =>
            clear e1
            obtain ⟨q, hq, rfl, rfl, rfl⟩ := hrel
            by_cases hlt2 : q < 8
            · have HQ := Lib.hid (stepsN_succ q y)
              have hz := stepsN_lt q hy
              generalize stepsN q y = z at *
              go_wp2_with fail
              refine (step_any z _ hz).mono ?_
              rintro e w5 ⟨rfl, rfl⟩
              go_wp2_with fail
              go_roundw
              case rel => exact ⟨q+1, by omega, by go_num, by rw [HQ.out], trivial⟩
              case measure => simp [intOf]; omega
            · obtain rfl : q = 8 := by omega
              go_wp2_with fail
              go_roundw
              case rel => exact ⟨k+1, by omega, by go_num, by rw [HS.out], trivial⟩
              case measure => simp [intOf]; omega
        · obtain rfl : n = k := by omega
          have E : Hid (crcGo 4294967295 (l.take n) = crcGo 4294967295 l) := Lib.hid (by rw [List.take_of_length_le (by rw [H.out]; exact Nat.le_refl _)])
          clear hlt
          go_wp2_with fail
          go_roundw
          case rel => exact ⟨.inr ⟨rfl, by rw [E.out]⟩, trivial⟩
          case measure => simp [intOf]
    · have hx : crcGo 4294967295 l < 4294967296 := crcGo_lt _ (by decide) HB.out
      have E : Hid (bits BinOp.xor IntKind.u32 IntKind.u32.max (crcGo 4294967295 l : Int) = (crcOf l : Int)) := Lib.hid (by rw [show IntKind.u32.max = ((4294967295 : Nat) : Int) from rfl, xor32 _ _ (by decide) hx, Nat.xor_comm]; rfl)
      generalize crcGo 4294967295 l = x at *
      go_wp2_with fail
      go_ret
      exact ⟨ret_u32 E.out, rfl⟩
end Go.Proofs.YtblibmalommdkaaGreat.Re

/-
  What le.Bytes and the reference's Bytes and number answer, of numbers that fit.
-/
namespace Go.Proofs.YtblibmalommdkaaGreat.Re
open Go.RowKit
def dv : Nat → Int → Int
  | 0, n => n
  | k+1, n => dv k n / 256
theorem dv_nn (k : Nat) {n : Int} (h : 0 ≤ n) : 0 ≤ dv k n := by
  induction k with
  | zero => exact h
  | succ k ih => exact Int.ediv_nonneg ih (by decide)
theorem dv_le (k : Nat) {n : Int} (h : 0 ≤ n) : dv k n ≤ n := by
  induction k with
  | zero => exact Int.le_refl _
  | succ k ih => exact Int.le_trans (Int.ediv_le_self _ (dv_nn k h)) ih
/-- A number's lowest bytes. -/
def leB (n : Int) (w : Nat) : List Int := (List.range w).map fun i => dv i n % 256
theorem leB_length (n : Int) (w : Nat) : (leB n w).length = w := by simp [leB]
theorem leB_get (n : Int) (w k : Nat) (h : k < w) : (leB n w)[k]? = some (dv k n % 256) := by simp [leB, h]
theorem leB_bytes (n : Int) (w : Nat) : Bytes (leB n w) := by
  intro b hb
  simp only [leB, List.mem_map] at hb
  obtain ⟨i, _, rfl⟩ := hb
  omega
theorem leB4 (n : Int) : leB n 4 = [n % 256, n / 256 % 256, n / 256 / 256 % 256, n / 256 / 256 / 256 % 256] := rfl
theorem leB1 (n : Int) : leB n 1 = [n % 256] := rfl
theorem OwnB.cell {w : World} {base g n c : Nat} {l : List Int} (h : OwnB w base (some ⟨g, 0, .none⟩) n c l) (k : Nat) (hk : k < n) (x : Int) (hx : l[k]? = some x) : w.cell? ⟨g, k, .none⟩ = some (.int .u8 x) := by
  rw [h.2.cellAt k (by omega), bcells_get, hx]; rfl
theorem OwnB.set {w : World} {base g n c : Nat} {l : List Int} (h : OwnB w base (some ⟨g, 0, .none⟩) n c l) (k : Nat) (x : Int) : OwnB (w.setCell ⟨g, k, .none⟩ (.int .u8 x)) base (some ⟨g, 0, .none⟩) n c (l.set k x) := by
  refine ⟨by simpa using h.1, ?_⟩
  have := (h.2.stored k (.int .u8 x)).1
  simpa [bcells, List.map_set] using this
theorem OwnB.base_le {w : World} {base g n c : Nat} {l : List Int} (h : OwnB w base (some ⟨g, 0, .none⟩) n c l) : base ≤ g ∧ g < w.heap.size := h.2.lt g rfl
/-- 'make([]byte, n)'. -/
theorem make_bytes (n : Nat) (N : Int) (hN : N = (n : Int)) (hn : n ≤ 1048576) : ∃ Z : Array Value, Z.toList = List.replicate n (.int .u8 0) ∧ ∀ W : World, (Instr.makeSlice 22 (.int .i64 N) (.int .i64 N)).run Tryz.prog W = .ok (.slice (some ⟨W.heap.size, 0, none⟩) n n) (W.alloc (.cells Z 5)) := by
  subst hN
  obtain ⟨i0, hi, hz0, hz1, hz2⟩ := info_parts info5
  refine ⟨madeCells (Value.int .u8 0).cells (n * 1), ?_, fun W => ?_⟩
  · rw [Nat.mul_one]; exact toList_madeCells_one _ _
  · have h := run_makeSlice (P := Tryz.prog) (w := W) 22 5 i0 (.int .u8 0) (by kernel_rfl) hi hz0 .i64 .i64 (n : Int) (n : Int) (by omega) (by omega) (by rw [hz1]; simp; omega) (by rw [hz2]; omega) (by omega)
    rw [hz1] at h
    simpa using h
theorem own_made (w : World) (Z : Array Value) (n : Nat) (hn : n ≤ maxLen) (hZ : Z.toList = List.replicate n (.int .u8 0)) (g : Nat) (hg : g = w.heap.size) : OwnB (w.alloc (.cells Z 5)) w.heap.size (some ⟨g, 0, none⟩) n n (List.replicate n 0) := by
  subst hg
  refine ⟨by simp, ?_⟩
  have := World.ownsRow_lit (base := w.heap.size) (e := 5) (size := 1) w Z n (Nat.le_refl _) hn (by rw [← Array.length_toList, hZ]; simp)
  rw [hZ] at this
  simpa [bcells] using this
theorem leB_part (n : Int) (w k : Nat) (h : k < w) : ((leB n w).take k ++ List.replicate (w - k) 0).set k (dv k n % 256) = (leB n w).take (k+1) ++ List.replicate (w - (k+1)) 0 := by
  have hl : ((leB n w).take k).length = k := by rw [List.length_take, leB_length]; omega
  rw [take_snoc _ k _ (leB_get n w k h), List.set_append_right _ _ (by omega), hl, Nat.sub_self, show w - k = (w - (k+1)) + 1 by omega, List.replicate_succ]
  simp
set_option maxRecDepth 100000 in
set_option maxHeartbeats 1000000 in
theorem Bytes4_any (n : Int) (w : World) (h0 : 0 ≤ n) (h1 : n < 4294967296) :
    Calls Tryz.prog 54 #[.int .i64 n, .int .i64 4] w fun e w' => (∃ g, e = .returned (.tuple #[.slice (some ⟨g, 0, none⟩) 4 4, .int .i64 0]) ∧ OwnB w' w.heap.size (some ⟨g, 0, none⟩) 4 4 (leB n 4)) ∧ Below w.heap.size w w' := by
  obtain ⟨Z, hZ, hmk⟩ := make_bytes 4 4 rfl (by omega)
  have hz : (n / 4294967296 != 0) = false := by simp; omega
  have HO := Lib.hid (own_made w Z 4 (by decide) hZ _ rfl)
  clear hZ
  go_enter Tryz.func54, Tryz.ntmps54
  go_wp2_with fail
  go_loopw [32] (fun i wr => ∃ k : Nat, k ≤ 4 ∧ i = .int .i64 k ∧ OwnB wr w.heap.size (some ⟨w.heap.size, 0, none⟩) 4 4 ((leB n 4).take k ++ List.replicate (4 - k) 0) ∧ Below w.heap.size w wr) (fun i _ => 4 - (intOf i).toNat)
  case atStart => exact ⟨0, by omega, rfl, HO.out, (Below.refl _ _).alloc (Nat.le_refl _) _⟩
  case round =>
    clear HO
    obtain ⟨k, hk, rfl, hO, hb⟩ := hrel
    by_cases hlt : k < 4
    · have q1 := hO.2.frozenAt k
      have hbl := hO.base_le.2
      have q0 : wr.cell? ⟨w.heap.size, k, none⟩ = some (.int .u8 0) := hO.cell k hlt 0 (by
        have hl : ((leB n 4).take k).length = k := by rw [List.length_take, leB_length]; omega
        rw [List.getElem?_append_right (by omega), hl, Nat.sub_self, List.getElem?_replicate, if_pos (by omega)])
      have HS := Lib.hid (hO.set k (dv k n % 256))
      have HP := Lib.hid (leB_part n 4 k hlt)
      have HB := Lib.hid (hb.setCell (p := ⟨w.heap.size, k, none⟩) (Nat.le_refl _) (.int .u8 (dv k n % 256)))
      have HD : Hid (dv 0 n = n ∧ dv 1 n = n / 256 ∧ dv 2 n = n / 65536 ∧ dv 3 n = n / 16777216) := Lib.hid ⟨rfl, rfl, by simp only [dv]; omega, by simp only [dv]; omega⟩
      clear hO hb
      rcases (show k = 0 ∨ k = 1 ∨ k = 2 ∨ k = 3 by omega) with rfl | rfl | rfl | rfl
      all_goals
        go_wp2_with fail
        go_roundw
        case rel =>
          obtain ⟨e0, e1, e2, e3⟩ := HD.out
          have hs := HS.out
          rw [HP.out] at hs
          have hb := HB.out
          simp only [e0, e1, e2, e3] at hs hb
          first | exact ⟨1, by omega, rfl, hs, hb⟩ | exact ⟨2, by omega, rfl, hs, hb⟩ | exact ⟨3, by omega, rfl, hs, hb⟩ | (rw [show n / 16777216 % 256 = n / 16777216 by omega] at hs hb; exact ⟨4, by omega, rfl, hs, hb⟩)
        case measure => simp [intOf]
    · obtain rfl : k = 4 := by omega
      go_wp2_with fail
      go_ret2
      exact ⟨⟨_, rfl, by simpa [List.take_of_length_le (Nat.le_of_eq (leB_length n 4))] using hO⟩, hb⟩
set_option maxRecDepth 100000 in
set_option maxHeartbeats 1000000 in
theorem Bytes6_any (n : Int) (w : World) (h0 : 0 ≤ n) (h1 : n < 281474976710656) :
    Calls Tryz.prog 54 #[.int .i64 n, .int .i64 6] w fun e w' => (∃ g, e = .returned (.tuple #[.slice (some ⟨g, 0, none⟩) 6 6, .int .i64 0]) ∧ OwnB w' w.heap.size (some ⟨g, 0, none⟩) 6 6 (leB n 6)) ∧ Below w.heap.size w w' := by
  obtain ⟨Z, hZ, hmk⟩ := make_bytes 6 6 rfl (by omega)
  have hz : (n / 281474976710656 != 0) = false := by simp; omega
  have HO := Lib.hid (own_made w Z 6 (by decide) hZ _ rfl)
  clear hZ
  go_enter Tryz.func54, Tryz.ntmps54
  go_wp2_with fail
  go_loopw [32] (fun i wr => ∃ k : Nat, k ≤ 6 ∧ i = .int .i64 k ∧ OwnB wr w.heap.size (some ⟨w.heap.size, 0, none⟩) 6 6 ((leB n 6).take k ++ List.replicate (6 - k) 0) ∧ Below w.heap.size w wr) (fun i _ => 6 - (intOf i).toNat)
  case atStart => exact ⟨0, by omega, rfl, HO.out, (Below.refl _ _).alloc (Nat.le_refl _) _⟩
  case round =>
    clear HO
    obtain ⟨k, hk, rfl, hO, hb⟩ := hrel
    by_cases hlt : k < 6
    · have q1 := hO.2.frozenAt k
      have hbl := hO.base_le.2
      have q0 : wr.cell? ⟨w.heap.size, k, none⟩ = some (.int .u8 0) := hO.cell k hlt 0 (by
        have hl : ((leB n 6).take k).length = k := by rw [List.length_take, leB_length]; omega
        rw [List.getElem?_append_right (by omega), hl, Nat.sub_self, List.getElem?_replicate, if_pos (by omega)])
      have HS := Lib.hid (hO.set k (dv k n % 256))
      have HP := Lib.hid (leB_part n 6 k hlt)
      have HB := Lib.hid (hb.setCell (p := ⟨w.heap.size, k, none⟩) (Nat.le_refl _) (.int .u8 (dv k n % 256)))
      have HD : Hid (dv 0 n = n ∧ dv 1 n = n / 256 ∧ dv 2 n = n / 65536 ∧ dv 3 n = n / 16777216 ∧ dv 4 n = n / 4294967296 ∧ dv 5 n = n / 1099511627776) := Lib.hid ⟨rfl, rfl, by simp only [dv]; omega, by simp only [dv]; omega, by simp only [dv]; omega, by simp only [dv]; omega⟩
      clear hO hb
      rcases (show k = 0 ∨ k = 1 ∨ k = 2 ∨ k = 3 ∨ k = 4 ∨ k = 5 by omega) with rfl | rfl | rfl | rfl | rfl | rfl
      all_goals
        go_wp2_with fail
        go_roundw
        case rel =>
          obtain ⟨e0, e1, e2, e3, e4, e5⟩ := HD.out
          have hs := HS.out
          rw [HP.out] at hs
          have hb := HB.out
          simp only [e0, e1, e2, e3, e4, e5] at hs hb
          first | exact ⟨1, by omega, rfl, hs, hb⟩ | exact ⟨2, by omega, rfl, hs, hb⟩ | exact ⟨3, by omega, rfl, hs, hb⟩ | exact ⟨4, by omega, rfl, hs, hb⟩ | exact ⟨5, by omega, rfl, hs, hb⟩ | (rw [show n / 1099511627776 % 256 = n / 1099511627776 by omega] at hs hb; exact ⟨6, by omega, rfl, hs, hb⟩)
        case measure => simp [intOf]
    · obtain rfl : k = 6 := by omega
      go_wp2_with fail
      go_ret2
      exact ⟨⟨_, rfl, by simpa [List.take_of_length_le (Nat.le_of_eq (leB_length n 6))] using hO⟩, hb⟩
set_option maxRecDepth 100000 in
theorem Bytes1_any (n : Int) (w : World) (h0 : 0 ≤ n) (h1 : n < 256) :
    Calls Tryz.prog 54 #[.int .i64 n, .int .i64 1] w fun e w' => (∃ g, e = .returned (.tuple #[.slice (some ⟨g, 0, none⟩) 1 1, .int .i64 0]) ∧ OwnB w' w.heap.size (some ⟨g, 0, none⟩) 1 1 (leB n 1)) ∧ Below w.heap.size w w' := by
  obtain ⟨Z, hZ, hmk⟩ := make_bytes 1 1 rfl (by omega)
  have hz : (n / 256 != 0) = false := by simp; omega
  have HO := Lib.hid (own_made w Z 1 (by decide) hZ _ rfl)
  clear hZ
  go_enter Tryz.func54, Tryz.ntmps54
  go_wp2_with fail
  go_loopw [32] (fun i wr => ((i = .int .i64 0 ∧ OwnB wr w.heap.size (some ⟨w.heap.size, 0, none⟩) 1 1 [0]) ∨ (i = .int .i64 1 ∧ OwnB wr w.heap.size (some ⟨w.heap.size, 0, none⟩) 1 1 (leB n 1))) ∧ Below w.heap.size w wr) (fun i _ => 1 - (intOf i).toNat)
  case atStart => exact ⟨.inl ⟨rfl, HO.out⟩, (Below.refl _ _).alloc (Nat.le_refl _) _⟩
  case round =>
    clear HO
    obtain ⟨⟨rfl, hO⟩ | ⟨rfl, hO⟩, hb⟩ := hrel
    · have q1 := hO.2.frozenAt 0
      have hbl := hO.base_le.2
      have q0 : wr.cell? ⟨w.heap.size, 0, none⟩ = some (.int .u8 0) := hO.cell 0 (by omega) 0 rfl
      have HS := Lib.hid (hO.set 0 n)
      have HB := Lib.hid (hb.setCell (p := ⟨w.heap.size, 0, none⟩) (Nat.le_refl _) (.int .u8 n))
      have E : Hid (n = n % 256) := Lib.hid (by omega)
      clear hO hb
      go_wp2_with fail
      go_roundw
      case rel => exact ⟨.inr ⟨rfl, by rw [leB1, ← E.out]; exact HS.out⟩, HB.out⟩
      case measure => simp [intOf]
    · go_wp2_with fail
      go_ret2
      exact ⟨⟨_, rfl, hO⟩, hb⟩
set_option maxRecDepth 100000 in
theorem RefBytes_any (n : Int) (d : Nat) (w : World) (h0 : 0 ≤ n) (h1 : n ≤ 9223372036854775807) (hd : 1 ≤ d) (hd8 : d ≤ 8) (hz : dv d n = 0) :
    Calls Tryz.prog 55 #[.int .i64 n, .int .i64 (d : Int)] w fun e w' => (∃ g c, e = .returned (.tuple #[.slice (some ⟨g, 0, none⟩) d c, .int .i64 0]) ∧ OwnB w' w.heap.size (some ⟨g, 0, none⟩) d c (leB n d)) ∧ Below w.heap.size w w' := by
  obtain ⟨i0, hi, hz0, hz1, hz2⟩ := info_parts info5
  have HZ := Lib.hid hz
  clear hz
  go_enter Tryz.func55, Tryz.ntmps55
  go_wp2_with fail
  go_loopw [0, 6, 7] (fun x v i wr => ∃ (k c : Nat) (A : Option Addr), k ≤ d ∧ x = .int .i64 (dv k n) ∧ v = .slice A k c ∧ i = .int .i64 k ∧ OwnB wr w.heap.size A k c ((leB n d).take k) ∧ Below w.heap.size w wr) (fun _ _ i _ => d - (intOf i).toNat)
  case atStart => exact ⟨0, 0, none, by omega, rfl, rfl, rfl, OwnB.nil _ _, Below.refl _ _⟩
  case round =>
    obtain ⟨k, c, A, hk, rfl, rfl, rfl, hO, hb⟩ := hrel
    have hn0 := dv_nn k h0
    have hn1 := Int.le_trans (dv_le k h0) h1
    by_cases hlt : k < d
    · have HO := Lib.hid hO
      have HB := Lib.hid hb
      have hsz := hb.size
      have HD : Hid (dv (k+1) n = dv k n / 256) := Lib.hid rfl
      have HT : Hid ((leB n d).take (k+1) = (leB n d).take k ++ [dv k n % 256]) := Lib.hid (take_snoc _ k _ (leB_get n d k hlt))
      clear hO hb
      generalize dv k n = m at *
      go_wp2_with (at_builtin; refine wpList_append_own _ rfl _ _ 22 rfl w.heap.size 5 i0 _ 1 1 Tryz.underlying22 hi hz0 hz1 hz2 rfl (by decide) _ _ _ rfl (HO.out.alloc _).2 ⟨wr.heap.size, 0, none⟩ 1 1 (bcells [m % 256]) rfl rfl (newb_one _ _ _ rfl) (bcells_one _) (by unfold maxLen; omega) (by omega) (by simp; omega) ?_)
      intro v' w1 hown' hgrow _
      obtain ⟨⟨A'', c'', hv, hown2⟩, hb3, _, _, _⟩ := appB_step HO.out HB.out hsz ((Below.refl _ _).alloc (Nat.le_refl _) _) (m := 1) (K := [m % 256]) rfl hown' hgrow
      rw [hv]
      clear hgrow hown' hv
      go_wp2_with fail
      go_roundw
      case rel => exact ⟨k+1, c'', A'', by omega, by rw [HD.out], rfl, by go_num, by rw [HT.out]; exact hown2, hb3⟩
      case measure => simp [intOf]; omega
    · obtain rfl : d = k := by omega
      have e1 := HZ.out
      clear hlt
      obtain ⟨g, rfl, _, _, _, _⟩ := hO.form (by omega)
      go_wp2_with fail
      go_ret2
      exact ⟨⟨_, _, rfl, by simpa [List.take_of_length_le (Nat.le_of_eq (leB_length n d))] using hO⟩, hb⟩
set_option maxRecDepth 100000 in
theorem number_any (n : Int) (d : Nat) (w : World) (h0 : 0 ≤ n) (h1 : n ≤ 9223372036854775807) (hd : 1 ≤ d) (hd8 : d ≤ 8) (hz : dv d n = 0) :
    Calls Tryz.prog 35 #[.int .i64 n, .int .i64 (d : Int)] w fun e w' => (∃ g c, e = .returned (.slice (some ⟨g, 0, none⟩) d c) ∧ OwnB w' w.heap.size (some ⟨g, 0, none⟩) d c (leB n d)) ∧ Below w.heap.size w w' := by
  have HZ := Lib.hid hz
  clear hz
  go_enter Tryz.func35, Tryz.ntmps35
  go_wp2_with fail
  refine (RefBytes_any n d _ h0 h1 hd hd8 HZ.out).mono ?_
  rintro e w1 ⟨⟨g, c, rfl, hO⟩, hb⟩
  go_wp2_with fail
  go_ret
  exact ⟨⟨g, c, rfl, hO⟩, hb⟩
end Go.Proofs.YtblibmalommdkaaGreat.Re

/-
  What put leaves: bytes of numbers behind a row.
-/
namespace Go.Proofs.YtblibmalommdkaaGreat.Re
open Go.RowKit
def Fits (d : Nat) (n : Int) : Prop := (d = 4 ∧ 0 ≤ n ∧ n < 4294967296) ∨ (d = 1 ∧ 0 ≤ n ∧ n < 256)
theorem BytesF_any (n : Int) (d : Nat) (w : World) (h : Fits d n) :
    Calls Tryz.prog 54 #[.int .i64 n, .int .i64 (d : Int)] w fun e w' => (∃ g, e = .returned (.tuple #[.slice (some ⟨g, 0, none⟩) d d, .int .i64 0]) ∧ OwnB w' w.heap.size (some ⟨g, 0, none⟩) d d (leB n d)) ∧ Below w.heap.size w w' := by
  rcases h with ⟨rfl, h0, h1⟩ | ⟨rfl, h0, h1⟩
  · exact Bytes4_any n w h0 h1
  · exact Bytes1_any n w h0 h1
theorem Fits.d {d : Nat} {n : Int} (h : Fits d n) : 1 ≤ d ∧ d ≤ 4 := by rcases h with ⟨rfl, _⟩ | ⟨rfl, _⟩ <;> omega
theorem ownBlock_slice (A : Option Addr) (n c : Nat) : (Value.slice A n c).ownBlock = A.map Addr.block := by cases A <;> rfl
/-- What is new lies behind: of the old only block o may have turned. -/
theorem grown_trans {w w1 w2 : World} {o o2 : Option Nat} (h : w.grownBy w1 o) (h' : w1.grownBy w2 o2) (hc : ∀ b, o2 = some b → o = some b ∨ w.heap.size ≤ b) : w.grownBy w2 o := by
  refine ⟨h'.os.trans h.os, h'.tape.trans h.tape, h'.output.trans h.output, Nat.le_trans h.size h'.size, fun k hk hne => ?_⟩
  refine (h'.block k (Nat.lt_of_lt_of_le hk h.size) (fun e => ?_)).trans (h.block k hk hne)
  rcases hc k e.symm with he | he
  · exact hne he.symm
  · omega
theorem grown_below {w w1 : World} (h : Below w.heap.size w w1) (o : Option Nat) : w.grownBy w1 o := ⟨h.os, h.tape, h.output, h.size, fun k hk _ => h.block k hk⟩
theorem RdI.grown {w w' : World} {B : Nat} {A : Option Addr} {l : List Int} {o : Option Nat} (h : RdI w B A l) (hg : w.grownBy w' o) (hB : B ≤ w.heap.size) (hA : ∀ b, A.map Addr.block = some b → o ≠ some b) : RdI w' B A l := by
  intro k v hv
  obtain ⟨b, off, rfl, hb, hc⟩ := h k v hv
  exact ⟨b, off, rfl, hb, (World.cell?_of_block (w := w) (a := ⟨b, off + k, none⟩) (hg.block b (by omega) (fun e => hA b rfl e.symm))).trans hc⟩
def Moved (w : World) (A A' : Option Addr) : Prop := ∀ b, A'.map Addr.block = some b → A.map Addr.block = some b ∨ w.heap.size ≤ b
set_option maxRecDepth 100000 in
set_option maxHeartbeats 1000000 in
theorem put_any (B : Nat) (A : Option Addr) (n c d : Nat) (NA : Option Addr) (m cn : Nat) (w : World) (l ns : List Int) (hO : OwnB w B A n c l) (hB : B ≤ w.heap.size) (hn : n ≤ 1073741824) (hd1 : 1 ≤ d) (hd2 : d ≤ 4) (hm : m ≤ 1073741824) (hns : ns.length = m) (hr : RdI w w.heap.size NA ns) (hA : ∀ b, NA.map Addr.block = some b → A.map Addr.block ≠ some b)
    (hf : ∀ x ∈ ns, Fits d x) :
    Calls Tryz.prog 34 #[.slice A n c, .int .i64 (d : Int), .slice NA m cn] w fun e w' => ∃ A' c', (e = .returned (.slice A' (n + d * m) c') ∧ OwnB w' B A' (n + d * m) c' (l ++ ns.flatMap (leB · d)) ∧ Moved w A A') ∧ w.grownBy w' (A.map Addr.block) := by
  obtain ⟨i0, hi, hz0, hz1, hz2⟩ := info_parts info5
  have HO := Lib.hid hO; have H := Lib.hid hns; have HR := Lib.hid hr; have HA := Lib.hid hA; have HF := Lib.hid hf
  clear hO hns hr hA hf
  go_enter Tryz.func34, Tryz.ntmps34
  go_wp2_with fail
  go_loopw [0, 13] (fun x i wr => ∃ (k c' q : Nat) (A' : Option Addr), k ≤ m ∧ q = n + d * k ∧ i = .int .i64 k ∧ x = .slice A' q c' ∧ OwnB wr B A' q c' (l ++ (ns.take k).flatMap (leB · d)) ∧ Moved w A A' ∧ w.grownBy wr (A.map Addr.block)) (fun _ i _ => m - (intOf i).toNat)
  case atStart => exact ⟨0, c, n, A, Nat.zero_le _, by simp, rfl, rfl, by simpa using HO.out, fun b h => .inl h, World.grownBy.refl _ _⟩
  case round =>
    obtain ⟨k, c', q, A', hk, hq, rfl, rfl, hO, hM, hg⟩ := hrel
    have hqm : q ≤ n + 4 * m := by
      have : d * k ≤ 4 * m := Nat.mul_le_mul hd2 hk
      omega
    have HQ := Lib.hid hq
    have HO1 := Lib.hid hO
    have HM := Lib.hid hM
    have HG := Lib.hid hg
    have hsz := hg.size
    clear hO hM hg hq
    by_cases hlt : k < m
    · obtain ⟨s, hs⟩ := get_some ns k (by rw [H.out]; exact hlt)
      obtain ⟨b, off, rfl, hblt, hc0⟩ := HR.out.grown HG.out (Nat.le_refl _) HA.out k s hs
      have HFs := Lib.hid (HF.out s (List.mem_of_getElem? hs))
      have HT : Hid ((ns.take (k+1)).flatMap (leB · d) = (ns.take k).flatMap (leB · d) ++ leB s d) := Lib.hid (by rw [take_snoc ns k s hs]; simp)
      clear hs
      go_wp2_with fail
      refine (BytesF_any s d _ HFs.out).mono ?_
      rintro e w5 ⟨⟨g, rfl, hO5⟩, hb⟩
      have HO5 := Lib.hid hO5
      have HO6 := Lib.hid (HO1.out.below hb (Nat.le_refl _))
      have HG5 := Lib.hid (grown_trans HG.out (grown_below hb none) (fun b h => by cases h))
      have hsz5 := hb.size
      clear hO5 hb
      go_wp2_with (at_builtin; refine wpList_append_block rfl _ _ 22 rfl B 5 i0 _ 1 1 Tryz.underlying22 hi hz0 hz1 hz2 rfl (by decide) _ _ _ rfl HO6.out.2 ⟨g, 0, none⟩ d d (bcells (leB s d)) rfl (by simp [bcells, leB]) (RdB.cells HO5.out.rd) (bcells_one _) (by unfold maxLen; omega) (by omega) (by omega) ?_)
      intro v' w6 hown' hgrow hblk
      obtain ⟨⟨A6, c6, hv, hO7⟩, _, _, _, _⟩ := appB_step (w := w5) HO6.out (Below.refl _ _) (by omega) (Below.refl _ _) (m := d) (K := leB s d) (leB_length s d) hown' hgrow
      have HO7 := Lib.hid hO7
      have HG6 : Hid (w.grownBy w6 (A.map Addr.block)) := Lib.hid (grown_trans HG5.out hgrow (fun b h => by rw [ownBlock_slice] at h; exact HM.out b h))
      have HM6 : Hid (Moved w A A6) := Lib.hid (fun b h => by
        rw [hv, ownBlock_slice, ownBlock_slice] at hblk
        rcases hblk with hb | hb
        · exact HM.out b (by rw [← hb]; exact h)
        · rw [hb] at h
          injection h with h
          right; omega)
      rw [hv]
      clear hown' hgrow hblk hv hO7
      go_wp2_with fail
      go_roundw
      case rel => exact ⟨k+1, c6, q + d, A6, by omega, by rw [HQ.out, Nat.mul_succ, Nat.add_assoc], by go_num, rfl, by rw [HT.out, ← List.append_assoc]; exact HO7.out, HM6.out, HG6.out⟩
      case measure => simp [intOf]; omega
    · obtain rfl : m = k := by omega
      have E : Hid (ns.take m = ns) := Lib.hid (by rw [List.take_of_length_le (by rw [H.out]; exact Nat.le_refl _)])
      clear hlt
      go_wp2_with fail
      go_ret
      obtain rfl := HQ.out
      exact ⟨A', c', ⟨rfl, by rw [← E.out]; simpa [E.out] using HO1.out, HM.out⟩, HG.out⟩
set_option maxRecDepth 100000 in
/-- Behind a row that is full and was not made by append. -/
theorem put_full (A : Option Addr) (n d : Nat) (NA : Option Addr) (cn : Nat) (w : World) (l : List Int) (x : Int) (hl : l.length = n) (hA : A ≠ none) (hR : RdB w w.heap.size A l) (hn : n ≤ 1073741824) (hr : RdI w w.heap.size NA [x]) (hf : Fits d x) :
    Calls Tryz.prog 34 #[.slice A n n, .int .i64 (d : Int), .slice NA 1 cn] w fun e w' => (∃ g c', e = .returned (.slice (some ⟨g, 0, none⟩) (n + d) c') ∧ OwnB w' w.heap.size (some ⟨g, 0, none⟩) (n + d) c' (l ++ leB x d)) ∧ Below w.heap.size w w' := by
  obtain ⟨i0, hi, hz0, hz1, hz2⟩ := info_parts info5
  obtain ⟨b, off, rfl, hblt, hc0⟩ := hr 0 x rfl
  rw [Nat.add_zero] at hc0
  have HR := Lib.hid hR; have H := Lib.hid hl; have HF := Lib.hid hf; have HA := Lib.hid hA
  have hd := hf.d
  clear hR hl hf hr hA
  go_enter Tryz.func34, Tryz.ntmps34
  go_wp2_with fail
  go_loopw [0, 13] (fun v i wr => (i = .int .i64 0 ∧ v = .slice A n n ∧ w = wr) ∨ (i = .int .i64 1 ∧ ∃ g c', v = .slice (some ⟨g, 0, none⟩) (n + d) c' ∧ OwnB wr w.heap.size (some ⟨g, 0, none⟩) (n + d) c' (l ++ leB x d) ∧ Below w.heap.size w wr)) (fun _ i _ => 1 - (intOf i).toNat)
  case atStart => exact .inl ⟨rfl, rfl, rfl⟩
  case round =>
    rcases hrel with ⟨rfl, rfl, rfl⟩ | ⟨rfl, g, c', rfl, hO, hb⟩
    · go_wp2_with fail
      refine (BytesF_any x d _ HF.out).mono ?_
      rintro e w5 ⟨⟨g, rfl, hO5⟩, hb⟩
      have HO5 := Lib.hid hO5
      have HR5 := Lib.hid (HR.out.up hb)
      have HB5 := Lib.hid hb
      clear hO5 hb
      go_wp2_with (at_builtin; refine wpList_append_grows w5 rfl _ _ 22 rfl 5 i0 _ 1 1 Tryz.underlying22 hi hz0 hz1 hz2 rfl (by decide) A n n (bcells l) rfl (fun h => absurd h HA.out) (by simp [bcells, H.out]) (HR5.out.cells') ⟨g, 0, none⟩ d d (bcells (leB x d)) rfl (by simp [bcells, leB]) (RdB.cells HO5.out.rd) (bcells_one _) (by omega) (by unfold maxLen; omega) (by omega) ?_)
      intro v' w6 hown' hgrow
      obtain ⟨A6, c6, hv⟩ := ext_of_ownB hown'
      rw [hv] at hown'
      have hO6 : OwnB w6 w5.heap.size A6 (n + d) c6 (l ++ leB x d) := ⟨by simp [H.out, leB_length], by simpa [bcells] using hown'⟩
      obtain ⟨g6, rfl, _, _, _, _⟩ := hO6.form (by omega)
      have HO6 := Lib.hid (hO6.mono HB5.out.size)
      have HB6 : Hid (Below w.heap.size w w6) := Lib.hid (HB5.out.grown hgrow HB5.out.size (fun k h => by cases h))
      rw [hv]
      clear hown' hgrow hv hO6
      go_wp2_with fail
      go_roundw
      case rel => exact .inr ⟨rfl, g6, c6, rfl, HO6.out, HB6.out⟩
      case measure => simp [intOf]
    · go_wp2_with fail
      go_ret
      exact ⟨⟨g, c', rfl, hO⟩, hb⟩
theorem put_own (B : Nat) (g n c d : Nat) (NA : Option Addr) (m cn : Nat) (w : World) (l ns : List Int) (hO : OwnB w B (some ⟨g, 0, none⟩) n c l) (hB : B ≤ w.heap.size) (hn : n ≤ 1073741824) (hn0 : 0 < n) (hd1 : 1 ≤ d) (hd2 : d ≤ 4) (hm : m ≤ 1073741824) (hns : ns.length = m) (hr : RdI w w.heap.size NA ns) (hA : ∀ b, NA.map Addr.block = some b → g ≠ b)
    (hf : ∀ x ∈ ns, Fits d x) :
    Calls Tryz.prog 34 #[.slice (some ⟨g, 0, none⟩) n c, .int .i64 (d : Int), .slice NA m cn] w fun e w' => (∃ g' c', e = .returned (.slice (some ⟨g', 0, none⟩) (n + d * m) c') ∧ OwnB w' B (some ⟨g', 0, none⟩) (n + d * m) c' (l ++ ns.flatMap (leB · d)) ∧ (g' = g ∨ w.heap.size ≤ g')) ∧ w.grownBy w' (some g) := by
  refine (put_any B _ n c d NA m cn w l ns hO hB hn hd1 hd2 hm hns hr (fun b hb e => hA b hb (by simpa using e)) hf).mono ?_
  rintro e w' ⟨A', c', ⟨rfl, hO', hM⟩, hg⟩
  obtain ⟨g', rfl, _, _, _, _⟩ := hO'.form (by omega)
  refine ⟨⟨g', c', rfl, hO', ?_⟩, hg⟩
  rcases hM g' rfl with h | h
  · left; injection h with h; exact h.symm
  · exact .inr h
end Go.Proofs.YtblibmalommdkaaGreat.Re

/-
  A head's bytes, plain.
-/
namespace Go.Proofs.YtblibmalommdkaaGreat.Re
open Go.RowKit
structure Hd where
  wave : Int
  ready : Bool
  body : Int
  sum : Int
def Hd.val (h : Hd) : Value := .agg #[.int .i64 h.wave, .bool h.ready, .int .i64 h.body, .int .u32 h.sum]
def hd0 : Hd := ⟨0, false, 0, 0⟩
def bit (r : Bool) : Int := if r then 1 else 0
def lettersL : List Int := [111, 99, 116, 97, 118, 111, 45, 106]
def headL (h : Hd) : List Int := lettersL ++ leB h.wave 4 ++ leB (bit h.ready) 1 ++ (leB h.body 4 ++ leB h.sum 4)
def preL (h : Hd) : List Int := headL h ++ List.replicate 39 0
def packL (h : Hd) : List Int := preL h ++ leB (crcOf (preL h)) 4
def okH (h : Hd) : Prop := 0 ≤ h.wave ∧ h.wave ≤ 2147483647 ∧ 0 ≤ h.body ∧ h.body ≤ 2147483647
theorem bit_bd (r : Bool) : 0 ≤ bit r ∧ bit r ≤ 1 := by cases r <;> simp [bit]
theorem bytes_append {l m : List Int} (hl : Bytes l) (hm : Bytes m) : Bytes (l ++ m) := fun b hb => (List.mem_append.1 hb).elim (hl b) (hm b)
theorem letters_bytes : Bytes lettersL := by intro b hb; simp [lettersL] at hb; omega
theorem zeros_bytes (n : Nat) : Bytes (List.replicate n 0) := by intro b hb; rw [List.eq_of_mem_replicate hb]; omega
theorem head_bytes (h : Hd) : Bytes (headL h) := bytes_append (bytes_append (bytes_append letters_bytes (leB_bytes _ _)) (leB_bytes _ _)) (bytes_append (leB_bytes _ _) (leB_bytes _ _))
theorem pre_bytes (h : Hd) : Bytes (preL h) := bytes_append (head_bytes h) (zeros_bytes _)
theorem pack_bytes (h : Hd) : Bytes (packL h) := bytes_append (pre_bytes h) (leB_bytes _ _)
theorem head_length (h : Hd) : (headL h).length = 21 := by simp [headL, lettersL, leB]
theorem pre_length (h : Hd) : (preL h).length = 60 := by simp [preL, head_length]
theorem pack_length (h : Hd) : (packL h).length = 64 := by simp [packL, pre_length, leB]
theorem lit_letters (w : World) (base : Nat) (hb : base ≤ w.heap.size) (g : Nat) (hg : g = w.heap.size) : OwnB (w.alloc (.cells #[.int .u8 111, .int .u8 99, .int .u8 116, .int .u8 97, .int .u8 118, .int .u8 111, .int .u8 45, .int .u8 106] 5)) base (some ⟨g, 0, none⟩) 8 8 lettersL := by
  subst hg
  exact ⟨rfl, World.ownsRow_lit (base := base) (e := 5) (size := 1) w _ 8 hb (by decide) rfl⟩
theorem rdI_lit1 (w : World) (x : Int) (g : Nat) (hg : g = w.heap.size) : RdI (w.alloc (.cells #[.int .i64 x] 3)) (w.alloc (.cells #[.int .i64 x] 3)).heap.size (some ⟨g, 0, none⟩) [x] := by
  subst hg
  intro k v hv
  match k with
  | 0 =>
    simp at hv
    subst hv
    exact ⟨_, 0, rfl, by simp, by rw [cell_new]; rfl⟩
  | k+1 => simp at hv
theorem rdI_lit2 (w : World) (x y : Int) (g : Nat) (hg : g = w.heap.size) : RdI (w.alloc (.cells #[.int .i64 x, .int .i64 y] 3)) (w.alloc (.cells #[.int .i64 x, .int .i64 y] 3)).heap.size (some ⟨g, 0, none⟩) [x, y] := by
  subst hg
  intro k v hv
  match k with
  | 0 =>
    simp at hv
    subst hv
    exact ⟨_, 0, rfl, by simp, by rw [cell_new]; rfl⟩
  | 1 =>
    simp at hv
    subst hv
    exact ⟨_, 0, rfl, by simp, by rw [cell_new]; rfl⟩
  | k+2 => simp at hv
end Go.Proofs.YtblibmalommdkaaGreat.Re

/-
  A region that draws its order, by an invariant over the operations that have come up: each operation is shown once. No program in sight.
-/
namespace Go.Proofs.YtblibmalommdkaaGreat.Re
open Go.RowKit
section
variable {P : Program} {ops : Array Oper} {Q : Exit → Act → World → Prop} {md : Region.Mode}
theorem count_set (l : List Bool) (i : Nat) (h : l.getD i true = false) : (l.set i true).count false + 1 = l.count false := by
  induction l generalizing i with
  | nil => simp at h
  | cons b l ih =>
    cases i with
    | zero =>
      simp at h
      subst h
      simp
    | succ i =>
      have := ih i (by simpa using h)
      cases b <;> simp <;> omega
theorem ready_nil_of_full {listed : Array Bool} (h : listed.toList.count false = 0) (_hs : listed.size = ops.size) : Region.ready md ops listed = [] := by
  rcases hr : Region.ready md ops listed with _ | ⟨i, r⟩
  · rfl
  · have hm : i ∈ Region.ready md ops listed := by rw [hr]; simp
    have h0 := (mem_ready.1 hm).1
    have h1 : listed.toList.getD i true = false := by simpa [Array.getD_eq_getD_getElem?, List.getD_eq_getElem?_getD] using h0
    have := count_set listed.toList i h1
    omega
theorem wpAny_inv (Inv : Array Bool → Act → World → Prop)
    (hstep : ∀ listed a w i, listed.size = ops.size → Inv listed a w → i ∈ Region.ready md ops listed → wpOp P ops Q i (fun a w => Inv (listed.setIfInBounds i true) a w) a w)
    (hdone : ∀ listed a w, listed.size = ops.size → Inv listed a w → Region.ready md ops listed = [] → Q .normal a w) :
    ∀ fuel listed a w, listed.size = ops.size → listed.toList.count false ≤ fuel → Inv listed a w → wpAny P md ops Q fuel listed a w := by
  intro fuel
  induction fuel with
  | zero =>
    intro listed a w hs hc h
    have hr := ready_nil_of_full (md := md) (ops := ops) (by omega) hs
    exact ⟨hr, hdone _ _ _ hs h hr⟩
  | succ fuel ih =>
    intro listed a w hs hc h
    refine ⟨fun hr => hdone _ _ _ hs h hr, fun i hi => wpOp_mono (fun a' w' h' => ih _ _ _ (by simpa using hs) ?_ h') (hstep _ _ _ _ hs h hi)⟩
    have h0 := (mem_ready.1 hi).1
    have h1 : listed.toList.getD i true = false := by simpa [Array.getD_eq_getD_getElem?, List.getD_eq_getElem?_getD] using h0
    have := count_set listed.toList i h1
    rw [Array.toList_setIfInBounds]
    omega
/-- Does operation i wait for operation j? -/
def waits (md : Region.Mode) (ops : Array Oper) (i j : Nat) : Bool := ((ops[i]?).map fun o => o.after.any fun e => Region.binds md e && e.on == j).getD false
theorem ready_dep {listed : Array Bool} {i : Nat} (h : i ∈ Region.ready md ops listed) (j : Nat) (hw : waits md ops i j = true) : listed.getD j false = true := by
  obtain ⟨_, o, ho, hall⟩ := mem_ready.1 h
  unfold waits at hw
  rw [ho] at hw
  simp only [Option.map_some, Option.getD_some] at hw
  obtain ⟨e, he, hb⟩ := Array.any_eq_true'.1 hw
  simp only [Bool.and_eq_true, beq_iff_eq] at hb
  rw [← hb.2]
  exact hall e he hb.1
theorem ready_lt {listed : Array Bool} {i : Nat} (h : i ∈ Region.ready md ops listed) : i < ops.size := by
  obtain ⟨_, o, ho, _⟩ := mem_ready.1 h
  exact (Array.getElem?_eq_some_iff.1 ho).1
theorem ready_not {listed : Array Bool} {i : Nat} (hs : listed.size = ops.size) (h : i ∈ Region.ready md ops listed) : listed.getD i false = false := by
  have h0 := (mem_ready.1 h).1
  have hl := ready_lt h
  rw [← hs] at hl
  simpa [Array.getD_eq_getD_getElem?, hl] using h0
/-- What has come up. -/
def Up (listed : Array Bool) (j : Nat) : Prop := listed.getD j false = true
theorem up_set {listed : Array Bool} {i j : Nat} (hi : i < listed.size) : Up (listed.setIfInBounds i true) j ↔ j = i ∨ Up listed j := by
  unfold Up
  by_cases h : j = i
  · subst h
    simp [Array.getD_eq_getD_getElem?, hi]
  · simp [Array.getD_eq_getD_getElem?, Ne.symm h, h]
/-- All have come up where none is ready, if each waits for ones with lesser numbers. -/
theorem up_all {listed : Array Bool} (hs : listed.size = ops.size) (hr : Region.ready md ops listed = []) (hlt : ops.toList.length = ops.size) (hb : (List.range ops.size).all (fun i => ((ops[i]?).map fun o => o.after.all fun e => decide (e.on < i)).getD false) = true) : ∀ j, j < ops.size → Up listed j := by
  intro j
  induction j using Nat.strongRecOn with
  | _ j ih =>
    intro hj
    rw [List.all_eq_true] at hb
    have hbj := hb j (List.mem_range.2 hj)
    have hoj : ops[j]? = some ops[j] := Array.getElem?_eq_getElem hj
    rw [hoj] at hbj
    simp only [Option.map_some, Option.getD_some] at hbj
    by_cases h : Up listed j
    · exact h
    · exfalso
      have hm : j ∈ Region.ready md ops listed := by
        refine mem_ready.2 ⟨?_, _, hoj, fun e he _ => ?_⟩
        · unfold Up at h
          have hl : j < listed.size := by omega
          simpa [Array.getD_eq_getD_getElem?, hl] using h
        · have := Array.all_eq_true'.1 hbj e he
          have hlt : e.on < j := by simpa using this
          exact ih e.on hlt (by omega)
      rw [hr] at hm
      cases hm
end
/-- A slot's value set. -/
def put_ (T : Nat → Value) (i : Nat) (v : Value) : Nat → Value := fun j => if j = i then v else T j
/-- Numbers that a literal holds. -/
def NumS (w : World) (v : Value) (ns : List Int) : Prop := ∃ g, v = .slice (some ⟨g, 0, none⟩) ns.length ns.length ∧ w.heap[g]? = some (.cells (ns.map (Value.int .i64)).toArray 3 (0, 0))
theorem NumS.grown {w w' : World} {v : Value} {ns : List Int} {o : Option Nat} (h : NumS w v ns) (hg : w.grownBy w' o) (ho : ∀ b, o = some b → ∃ cs m, w.heap[b]? = some (.cells cs 5 m)) : NumS w' v ns := by
  obtain ⟨g, rfl, hh⟩ := h
  refine ⟨g, rfl, ?_⟩
  have hlt := (Array.getElem?_eq_some_iff.1 hh).1
  rw [hg.block g hlt (fun e => ?_)]
  · exact hh
  · obtain ⟨cs, m, hc⟩ := ho g e.symm
    rw [hc] at hh
    injection hh with hh
    injection hh with _ h2 _
    cases h2
theorem NumS.rd {w : World} {v : Value} {ns : List Int} (h : NumS w v ns) : ∃ g, v = .slice (some ⟨g, 0, none⟩) ns.length ns.length ∧ RdI w w.heap.size (some ⟨g, 0, none⟩) ns ∧ w.heap[g]? = some (.cells (ns.map (Value.int .i64)).toArray 3 (0, 0)) := by
  obtain ⟨g, rfl, hh⟩ := h
  refine ⟨g, rfl, fun k x hx => ⟨g, 0, rfl, (Array.getElem?_eq_some_iff.1 hh).1, ?_⟩, hh⟩
  rw [Nat.zero_add, cell_of_row _ _ _ _ _ _ hh]
  simp [hx]
def RowS (w : World) (base : Nat) (v : Value) (n : Nat) (l : List Int) : Prop := ∃ g c, v = .slice (some ⟨g, 0, none⟩) n c ∧ OwnB w base (some ⟨g, 0, none⟩) n c l
theorem OwnB.blk {w : World} {base g n c : Nat} {l : List Int} (h : OwnB w base (some ⟨g, 0, .none⟩) n c l) : ∃ cs m, w.heap[g]? = some (.cells cs 5 m) := by
  rcases h.2.2 with ⟨h', _⟩ | ⟨g', cap', cur, h', _, hg, _⟩
  · simp at h'
  · simp only [Value.slice.injEq, Option.some.injEq, Addr.mk.injEq, and_true, true_and] at h'
    obtain ⟨rfl, rfl⟩ := h'
    exact ⟨_, _, hg⟩
theorem RowS.grown {w w' : World} {base : Nat} {v : Value} {n : Nat} {l : List Int} (h : RowS w base v n l) (hg : w.grownBy w' none) : RowS w' base v n l := by
  obtain ⟨g, c, rfl, ho⟩ := h
  exact ⟨g, c, rfl, ho.1, ho.2.kept hg (.inr (by simp [Value.ownBlock]))⟩
theorem grown_alloc (w : World) (o : Obj) : w.grownBy (w.alloc o) none := by
  have h := (Below.refl w.heap.size w).alloc (Nat.le_refl _) o
  exact ⟨h.os, h.tape, h.output, h.size, fun k hk _ => h.block k hk⟩
/-- A region that reads, makes one block (operation n) and stores what it read into it (operation n+1). -/
structure RW (wq : World) (Z : Obj) (V : Nat → Value) (n : Nat) (Fin : World → Prop) (D : Nat → Prop) (T : Nat → Value) (w : World) : Prop where
  val : ∀ i, i < n + 1 → D i → T i = V i
  cl : D (n+1) → ∀ j, j < n + 1 → D j
  w0 : ¬ D n → w = wq
  w1 : D n → ¬ D (n+1) → w = wq.alloc Z
  w2 : D (n+1) → Fin w
section
variable {wq w : World} {Z : Obj} {V : Nat → Value} {n : Nat} {Fin : World → Prop} {L : Array Bool} {T : Nat → Value}
theorem RW.last (h : RW wq Z V n Fin (Up L) T w) (i : Nat) (hi : i < n + 1) (hn : ¬ Up L i) : ¬ Up L (n+1) := fun x => hn (h.cl x i hi)
theorem RW.world (h : RW wq Z V n Fin (Up L) T w) (i : Nat) (hi : i < n + 1) (hn : ¬ Up L i) : w = wq ∨ w = wq.alloc Z := by
  by_cases hd : Up L n
  · exact .inr (h.w1 hd (h.last i hi hn))
  · exact .inl (h.w0 hd)
theorem RW.same (h : RW wq Z V n Fin (Up L) T w) (i : Nat) (v : Value) (hiL : i < L.size) (hi : i < n) (hn : ¬ Up L i) (hv : v = V i) : RW wq Z V n Fin (Up (L.setIfInBounds i true)) (put_ T i v) w := by
  have hl := h.last i (by omega) hn
  have e : ∀ j, j ≠ i → (Up (L.setIfInBounds i true) j ↔ Up L j) := fun j hj => ⟨fun x => ((up_set hiL).1 x).resolve_left hj, fun x => (up_set hiL).2 (.inr x)⟩
  refine ⟨fun j hj hu => ?_, fun x => absurd ((e _ (by omega)).1 x) hl, fun x => h.w0 (fun y => x ((e _ (by omega)).2 y)), fun x y => h.w1 ((e _ (by omega)).1 x) hl, fun x => absurd ((e _ (by omega)).1 x) hl⟩
  by_cases hji : j = i
  · subst hji; simpa [put_] using hv
  · simp only [put_, if_neg hji]
    exact h.val j hj ((e j hji).1 hu)
theorem RW.made (h : RW wq Z V n Fin (Up L) T w) (v : Value) (hiL : n < L.size) (hn : ¬ Up L n) (hv : v = V n) : RW wq Z V n Fin (Up (L.setIfInBounds n true)) (put_ T n v) (w.alloc Z) := by
  have hl := h.last n (by omega) hn
  have hw := h.w0 hn
  have e : ∀ j, j ≠ n → (Up (L.setIfInBounds n true) j ↔ Up L j) := fun j hj => ⟨fun x => ((up_set hiL).1 x).resolve_left hj, fun x => (up_set hiL).2 (.inr x)⟩
  refine ⟨fun j hj hu => ?_, fun x => absurd ((e _ (by omega)).1 x) hl, fun x => absurd ((up_set hiL).2 (.inl rfl)) x, fun _ _ => by rw [hw], fun x => absurd ((e _ (by omega)).1 x) hl⟩
  by_cases hji : j = n
  · subst hji; simpa [put_] using hv
  · simp only [put_, if_neg hji]
    exact h.val j hj ((e j hji).1 hu)
theorem RW.fin (h : RW wq Z V n Fin (Up L) T w) (w' : World) (hiL : n + 1 < L.size) (hall : ∀ j, j < n + 1 → Up L j) (hf : Fin w') : RW wq Z V n Fin (Up (L.setIfInBounds (n+1) true)) T w' := by
  have e : ∀ j, Up L j → Up (L.setIfInBounds (n+1) true) j := fun j x => (up_set hiL).2 (.inr x)
  exact ⟨fun j hj _ => h.val j hj (hall j hj), fun _ j hj => e j (hall j hj), fun x => absurd (e n (hall n (by omega))) x, fun _ y => absurd ((up_set hiL).2 (.inl rfl)) y, fun _ => hf⟩
end
end Go.Proofs.YtblibmalommdkaaGreat.Re

/-
  A drawn region by an invariant, where what has come up is closed; and four stores in a row. No program in sight.
-/
namespace Go.Proofs.YtblibmalommdkaaGreat.Re
open Go.RowKit
section
variable {P : Program} {ops : Array Oper} {Q : Exit → Act → World → Prop} {md : Region.Mode}
/-- Whatever has come up, what it waits for has come up. -/
def Closed (md : Region.Mode) (ops : Array Oper) (listed : Array Bool) : Prop := ∀ i j, Up listed i → waits md ops i j = true → Up listed j
theorem closed_none (n : Nat) : Closed md ops (Array.replicate n false) := fun i j h _ => by
  exfalso
  unfold Up at h
  by_cases hlt : i < n
  · simp [Array.getD_eq_getD_getElem?, hlt] at h
  · simp [Array.getD_eq_getD_getElem?, hlt] at h
theorem wpAny_invC (Inv : Array Bool → Act → World → Prop)
    (hstep : ∀ listed a w i, listed.size = ops.size → Closed md ops listed → Inv listed a w → i ∈ Region.ready md ops listed → wpOp P ops Q i (fun a w => Inv (listed.setIfInBounds i true) a w) a w)
    (hdone : ∀ listed a w, listed.size = ops.size → Inv listed a w → Region.ready md ops listed = [] → Q .normal a w) (fuel : Nat) (n : Nat) (a : Act) (w : World) (hs : n = ops.size) (hc : (Array.replicate n false).toList.count false ≤ fuel) (h : Inv (Array.replicate n false) a w) :
    wpAny P md ops Q fuel (Array.replicate n false) a w := by
  refine wpAny_inv (fun L a w => Closed md ops L ∧ Inv L a w) ?_ (fun L a w hs h hr => hdone L a w hs h.2 hr) fuel _ a w (by simpa using hs) hc ⟨closed_none n, h⟩
  intro L a w i hs h hr
  refine wpOp_mono (fun a' w' h' => ⟨?_, h'⟩) (hstep L a w i hs h.1 h.2 hr)
  intro j k hj hw
  have hi : i < L.size := by have := ready_lt hr; omega
  rcases (up_set hi).1 hj with rfl | hj
  · exact (up_set hi).2 (.inr (ready_dep hr k hw))
  · exact (up_set hi).2 (.inr (h.1 j k hj hw))
end
theorem four_set {w : World} {g : Nat} {a0 a1 a2 a3 : Value} (b0 b1 b2 b3 : Value) (e0 : w.cell? ⟨g, 0, none⟩ = some a0) (e1 : w.cell? ⟨g, 1, none⟩ = some a1) (e2 : w.cell? ⟨g, 2, none⟩ = some a2) (e3 : w.cell? ⟨g, 3, none⟩ = some a3) :
    let w' := (((w.setCell ⟨g, 0, none⟩ b0).setCell ⟨g, 1, none⟩ b1).setCell ⟨g, 2, none⟩ b2).setCell ⟨g, 3, none⟩ b3
    w'.cell? ⟨g, 0, none⟩ = some b0 ∧ w'.cell? ⟨g, 1, none⟩ = some b1 ∧ w'.cell? ⟨g, 2, none⟩ = some b2 ∧ w'.cell? ⟨g, 3, none⟩ = some b3 := by
  have o : ∀ (W : World) (i j : Nat) (v : Value), i ≠ j → (W.setCell ⟨g, i, none⟩ v).cell? ⟨g, j, none⟩ = W.cell? ⟨g, j, none⟩ := fun W i j v h => World.cell?_setCell_other _ _ _ _ (by intro hh; injection hh with _ h2 _; omega)
  refine ⟨?_, ?_, ?_, ?_⟩
  · rw [o _ 3 0 _ (by decide), o _ 2 0 _ (by decide), o _ 1 0 _ (by decide)]; exact World.cell?_setCell_same _ _ _ e0
  · rw [o _ 3 1 _ (by decide), o _ 2 1 _ (by decide)]; exact World.cell?_setCell_same _ _ _ ((o _ 0 1 _ (by decide)).trans e1)
  · rw [o _ 3 2 _ (by decide)]; exact World.cell?_setCell_same _ _ _ ((o _ 1 2 _ (by decide)).trans ((o _ 0 2 _ (by decide)).trans e2))
  · exact World.cell?_setCell_same _ _ _ ((o _ 2 3 _ (by decide)).trans ((o _ 1 3 _ (by decide)).trans ((o _ 0 3 _ (by decide)).trans e3)))
end Go.Proofs.YtblibmalommdkaaGreat.Re

/-
  What the reference's PackHead makes.
-/
namespace Go.Proofs.YtblibmalommdkaaGreat.Re
open Go.RowKit
def room60 (v : Value) : Nat := match v with | .slice _ n _ => 60 - n | _ => 0
theorem dv4 {n : Int} (h0 : 0 ≤ n) (h1 : n < 4294967296) : dv 4 n = 0 := by simp only [dv]; omega
theorem rd_letters_marked (w : World) (m : Nat × Nat) : RdB (w.alloc (.cells #[.int .u8 111, .int .u8 99, .int .u8 116, .int .u8 97, .int .u8 118, .int .u8 111, .int .u8 45, .int .u8 106] 5 m)) (w.alloc (.cells #[.int .u8 111, .int .u8 99, .int .u8 116, .int .u8 97, .int .u8 118, .int .u8 111, .int .u8 45, .int .u8 106] 5 m)).heap.size (some ⟨w.heap.size, 0, none⟩) lettersL := by
  intro k v hv
  refine ⟨_, 0, rfl, by simp, ?_⟩
  rw [Nat.zero_add, cell_of_row _ _ _ _ _ _ (heap_alloc_new w _)]
  have e : (#[Value.int .u8 111, .int .u8 99, .int .u8 116, .int .u8 97, .int .u8 118, .int .u8 111, .int .u8 45, .int .u8 106] : Array Value)[k]? = (bcells lettersL)[k]? := by
    rw [← Array.getElem?_toList]; rfl
  rw [e, bcells_get, hv]; rfl
theorem pre_take (h : Hd) (k : Nat) (_hk : k < 39) : headL h ++ List.replicate k 0 ++ [0] = headL h ++ List.replicate (k+1) 0 := by
  rw [List.append_assoc, List.replicate_succ']
end Go.Proofs.YtblibmalommdkaaGreat.Re

/-
  What le.Int and the reference's Int and value answer, of few bytes.
-/
namespace Go.Proofs.YtblibmalommdkaaGreat.Re
open Go.RowKit
def leVal (l : List Int) : Int := l.foldr (fun b acc => b + 256 * acc) 0
theorem leVal_cons (b : Int) (l : List Int) : leVal (b :: l) = b + 256 * leVal l := rfl
theorem leVal_bd (l : List Int) (hl : Bytes l) : 0 ≤ leVal l ∧ leVal l < 256 ^ l.length := by
  induction l with
  | nil => exact ⟨Int.le_refl _, by decide⟩
  | cons b l ih =>
    obtain ⟨h0, h1⟩ := ih (fun c hc => hl c (by simp [hc]))
    obtain ⟨hb0, hb1⟩ := hl b (by simp)
    rw [leVal_cons, List.length_cons, Int.pow_succ]
    constructor
    · omega
    · generalize (256 : Int) ^ l.length = p at *
      omega
theorem leVal_lt4 (l : List Int) (hl : Bytes l) (hn : l.length ≤ 4) : 0 ≤ leVal l ∧ leVal l < 4294967296 := by
  obtain ⟨h0, h1⟩ := leVal_bd l hl
  refine ⟨h0, ?_⟩
  rcases (show l.length = 0 ∨ l.length = 1 ∨ l.length = 2 ∨ l.length = 3 ∨ l.length = 4 by omega) with e | e | e | e | e <;> rw [e] at h1 <;> simp at h1 <;> omega
theorem leVal_lt3 (l : List Int) (hl : Bytes l) (hn : l.length ≤ 5) : 0 ≤ leVal l ∧ leVal l < 1099511627776 := by
  obtain ⟨h0, h1⟩ := leVal_bd l hl
  refine ⟨h0, ?_⟩
  rcases (show l.length = 0 ∨ l.length = 1 ∨ l.length = 2 ∨ l.length = 3 ∨ l.length = 4 ∨ l.length = 5 by omega) with e | e | e | e | e | e <;> rw [e] at h1 <;> simp at h1 <;> omega
theorem leVal_lt6 (l : List Int) (hl : Bytes l) (hn : l.length ≤ 6) : 0 ≤ leVal l ∧ leVal l < 281474976710656 := by
  obtain ⟨h0, h1⟩ := leVal_bd l hl
  refine ⟨h0, ?_⟩
  rcases (show l.length = 0 ∨ l.length = 1 ∨ l.length = 2 ∨ l.length = 3 ∨ l.length = 4 ∨ l.length = 5 ∨ l.length = 6 by omega) with e | e | e | e | e | e | e <;> rw [e] at h1 <;> simp at h1 <;> omega
theorem leVal_lt1 (l : List Int) (hl : Bytes l) (hn : l.length ≤ 1) : 0 ≤ leVal l ∧ leVal l < 256 := by
  obtain ⟨h0, h1⟩ := leVal_bd l hl
  refine ⟨h0, ?_⟩
  rcases (show l.length = 0 ∨ l.length = 1 by omega) with e | e <;> rw [e] at h1 <;> simp at h1 <;> omega
theorem bytes_drop {l : List Int} (h : Bytes l) (k : Nat) : Bytes (l.drop k) := fun b hb => h b (List.mem_of_mem_drop hb)
theorem bytes_take {l : List Int} (h : Bytes l) (k : Nat) : Bytes (l.take k) := fun b hb => h b (List.mem_of_mem_take hb)
theorem leVal_drop (l : List Int) (j : Nat) (s : Int) (h : l[j]? = some s) : leVal (l.drop j) = s + 256 * leVal (l.drop (j+1)) := by
  have hj := (List.getElem?_eq_some_iff.1 h)
  obtain ⟨hlt, he⟩ := hj
  rw [List.drop_eq_getElem_cons hlt, he, leVal_cons]
theorem or_join (x y : Int) (hx0 : 0 ≤ x) (hx1 : x < 1099511627776) (hy0 : 0 ≤ y) (hy1 : y ≤ 255) : bits .or .i64 (x * 256) y = y + 256 * x := by
  have h := bits_join .i64 48 (by decide) (fun n h0 h1 => by rw [IntKind.wrap_i64]; omega) 8 (x * 256) y (by omega) (by omega) (by omega) hy0 (by omega) (by omega)
  rw [h]; omega
set_option maxRecDepth 100000 in
theorem Int_any (A : Option Addr) (n c : Nat) (w : World) (l : List Int) (hl : l.length = n) (hr : RdB w w.heap.size A l) (hb : Bytes l) (h1 : 1 ≤ n) (h4 : n ≤ 6) :
    Calls Tryz.prog 38 #[.slice A n c] w fun e w' => e = .returned (.tuple #[.int .i64 (leVal l), .int .i64 0]) ∧ w = w' := by
  have H := Lib.hid hl; have HR := Lib.hid hr; have HB := Lib.hid hb
  clear hl hr hb
  go_enter Tryz.func38, Tryz.ntmps38
  go_wp2_with fail
  go_loopw [4, 5] (fun v i wr => ∃ j : Nat, j ≤ n ∧ i = .int .i64 ((j : Int) - 1) ∧ v = .int .i64 (leVal (l.drop j)) ∧ w = wr) (fun _ i _ => (intOf i + 1).toNat)
  case atStart => exact ⟨n, Nat.le_refl _, rfl, by rw [List.drop_eq_nil_of_le (by rw [H.out]; exact Nat.le_refl _)]; rfl, rfl⟩
  case round =>
    obtain ⟨j, hj, rfl, rfl, rfl⟩ := hrel
    by_cases hlt : 1 ≤ j
    · obtain ⟨i, rfl⟩ : ∃ i, j = i + 1 := ⟨j - 1, by omega⟩
      obtain ⟨s, hs⟩ := get_some l i (by rw [H.out]; omega)
      obtain ⟨b, off, rfl, hblt, hc0⟩ := HR.out i s hs
      obtain ⟨hs0, hs1⟩ := HB.out s (List.mem_of_getElem? hs)
      have HD := Lib.hid (leVal_drop l i s hs)
      have hx := leVal_lt3 (l.drop (i+1)) (bytes_drop HB.out _) (by rw [List.length_drop, H.out]; omega)
      have e1 : ((i + 1 : Nat) : Int) - 1 = (i : Int) := by omega
      rw [e1]
      clear hs e1
      generalize leVal (l.drop (i+1)) = x at *
      obtain ⟨hx0, hx1⟩ := hx
      have e2 := or_join x s hx0 hx1 hs0 hs1
      go_wp2_with fail
      go_roundw
      case rel => exact ⟨i, by omega, rfl, by rw [HD.out], trivial⟩
      case measure => simp [intOf]
    · obtain rfl : j = 0 := by omega
      go_wp2_with fail
      go_ret2
      exact ⟨by simp, rfl⟩
set_option maxRecDepth 100000 in
theorem RefInt_any (A : Option Addr) (n c : Nat) (w : World) (l : List Int) (hl : l.length = n) (hr : RdB w w.heap.size A l) (hb : Bytes l) (h1 : 1 ≤ n) (h4 : n ≤ 6) :
    Calls Tryz.prog 65 #[.slice A n c] w fun e w' => e = .returned (.tuple #[.int .i64 (leVal l), .int .i64 0]) ∧ w = w' := by
  have H := Lib.hid hl; have HR := Lib.hid hr; have HB := Lib.hid hb
  clear hl hr hb
  go_enter Tryz.func65, Tryz.ntmps65
  go_wp2_with fail
  go_loopw [4, 5] (fun v i wr => ∃ j k : Nat, j + k = n ∧ i = .int .i64 (k : Int) ∧ v = .int .i64 (leVal (l.drop j)) ∧ w = wr) (fun _ i _ => n - (intOf i).toNat)
  case atStart => exact ⟨n, 0, rfl, rfl, by rw [List.drop_eq_nil_of_le (by rw [H.out]; exact Nat.le_refl _)]; rfl, rfl⟩
  case round =>
    obtain ⟨j, k, hj, rfl, rfl, rfl⟩ := hrel
    by_cases hlt : 1 ≤ j
    · obtain ⟨i, rfl⟩ : ∃ i, j = i + 1 := ⟨j - 1, by omega⟩
      obtain ⟨s, hs⟩ := get_some l i (by rw [H.out]; omega)
      obtain ⟨b, off, rfl, hblt, hc0⟩ := HR.out i s hs
      obtain ⟨hs0, hs1⟩ := HB.out s (List.mem_of_getElem? hs)
      have HD := Lib.hid (leVal_drop l i s hs)
      have hx := leVal_lt3 (l.drop (i+1)) (bytes_drop HB.out _) (by rw [List.length_drop, H.out]; omega)
      have hkn : k < n := by omega
      have hin : i < n := by omega
      have e1 : (n : Int) - 1 - (k : Int) = (i : Int) := by omega
      have HJ := Lib.hid hj
      clear hs hj
      generalize leVal (l.drop (i+1)) = x at *
      obtain ⟨hx0, hx1⟩ := hx
      go_wp2_with fail
      go_roundw
      case rel => exact ⟨i, k+1, by have := HJ.out; omega, by go_num, by rw [HD.out]; congr 1; omega, trivial⟩
      case measure => simp [intOf]; omega
    · obtain rfl : j = 0 := by omega
      obtain rfl : n = k := by omega
      clear hj
      go_wp2_with fail
      go_ret2
      exact ⟨by simp, rfl⟩
set_option maxRecDepth 100000 in
theorem value_any (A : Option Addr) (n c : Nat) (w : World) (l : List Int) (hl : l.length = n) (hr : RdB w w.heap.size A l) (hb : Bytes l) (h1 : 1 ≤ n) (h4 : n ≤ 6) :
    Calls Tryz.prog 47 #[.slice A n c] w fun e w' => e = .returned (.int .i64 (leVal l)) ∧ w = w' := by
  have H := Lib.hid hl; have HR := Lib.hid hr; have HB := Lib.hid hb
  clear hl hr hb
  go_enter Tryz.func47, Tryz.ntmps47
  go_wp2_with fail
  refine (RefInt_any A n c _ l H.out HR.out HB.out h1 h4).mono ?_
  rintro e w1 ⟨rfl, rfl⟩
  go_wp2_with fail
  go_ret
  exact ⟨rfl, rfl⟩
end Go.Proofs.YtblibmalommdkaaGreat.Re
