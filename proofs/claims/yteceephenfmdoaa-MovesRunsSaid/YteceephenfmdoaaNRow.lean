/-
  Rows for Run: a file that is copied into, texts that were made and the row of them. No walk.
-/
import Derived.Test.YteceephenfmdoaaNRunp
import Derived.Test.YteceephenfmdoaaMLit
import Derived.Test.YteceephenfmdoaaMBytes
import Derived.Laws.CopyOwn
import Derived.Maps.AppendAt
namespace Go.Proofs.Yteceephenfmdoaa
open Go.RowKit
open Sc (RdB OwnB bcells RdBL)
theorem info22 : (Try.prog.info? 22).map (fun i => (i.zero, i.size, i.bytes)) = some (some (.slice none 0 0), 1, 24) := by kernel_rfl
theorem info5s : (Try.prog.info? 5).map (·.size) = some 1 := by
  obtain ⟨i0, hi, _, hz1, _⟩ := info_parts Sc.info5
  rw [hi]; simp [hz1]
theorem below_of_grown {w w' : World} {B g : Nat} (h : w.grownBy w' (some g)) (hB : B ≤ g) (hs : B ≤ w.heap.size) : Below B w w' := (Below.refl B w).grown h hs (fun k hk => by injection hk with hk; omega)
/-- Three sources. -/
theorem RdBL.three {w : World} {A A1 A2 : Option Addr} {n c n1 c1 n2 c2 : Nat} {l l1 l2 : List Int} (h : RdB w w.heap.size A l) (hn : l.length = n) (hc : n ≤ c ∧ c ≤ maxLen) (h1 : RdB w w.heap.size A1 l1) (hn1 : l1.length = n1) (hc1 : n1 ≤ c1 ∧ c1 ≤ maxLen) (h2 : RdB w w.heap.size A2 l2) (hn2 : l2.length = n2) (hc2 : n2 ≤ c2 ∧ c2 ≤ maxLen) (T : TypeId) :
    RdBL (w.alloc (.cells #[.slice A n c, .slice A1 n1 c1, .slice A2 n2 c2] T)) (w.alloc (.cells #[.slice A n c, .slice A1 n1 c1, .slice A2 n2 c2] T)).heap.size (some ⟨w.heap.size, 0, none⟩) [l, l1, l2] := by
  subst hn; subst hn1; subst hn2
  intro k l' hl
  match k, hl with
  | 0, hl =>
    simp at hl; subst hl
    exact ⟨w.heap.size, 0, A, c, rfl, by simp, by rw [cell_new]; rfl, hc.1, hc.2, (h.alloc (Nat.le_refl _) _).more (by simp)⟩
  | 1, hl =>
    simp at hl; subst hl
    exact ⟨w.heap.size, 0, A1, c1, rfl, by simp, by rw [cell_new]; rfl, hc1.1, hc1.2, (h1.alloc (Nat.le_refl _) _).more (by simp)⟩
  | 2, hl =>
    simp at hl; subst hl
    exact ⟨w.heap.size, 0, A2, c2, rfl, by simp, by rw [cell_new]; rfl, hc2.1, hc2.2, (h2.alloc (Nat.le_refl _) _).more (by simp)⟩
  | k+3, hl => simp at hl
theorem OwnB.block {w : World} {base n c g : Nat} {l : List Int} (h : OwnB w base (some ⟨g, 0, none⟩) n c l) : base ≤ g ∧ g < w.heap.size ∧ n ≤ c ∧ c ≤ maxLen ∧ ∃ cur, w.heap[g]? = some (.cells cur 5 (0, 0)) ∧ cur.size = c := by
  rcases h.2.2 with ⟨hv, _⟩ | ⟨g', cap, cur, hv, hb, hg, r1, r2, r3, _⟩
  · cases hv
  · injection hv with ha _ hc
    injection ha with ha
    injection ha with ha
    subst ha; subst hc
    exact ⟨hb, (Array.getElem?_eq_some_iff.1 hg).1, r1, r2, cur, hg, by omega⟩
theorem OwnB.shrink {w : World} {base : Nat} {A : Option Addr} {n c : Nat} {l : List Int} (h : OwnB w base A n c l) (k : Nat) (hk : k ≤ n) : OwnB w base A k c (l.take k) := by
  obtain ⟨hl, h1, h2⟩ := h
  refine ⟨by simp [hl]; omega, by simp [bcells, hl]; omega, ?_⟩
  rcases h2 with ⟨hv, hn⟩ | ⟨g, cap, cur, hv, hb, hg, r1, r2, r3, r4⟩
  · injection hv with ha hn' hc
    subst ha; subst hc
    exact .inl ⟨by rw [show k = 0 by omega], by omega⟩
  · injection hv with ha hn' hc
    subst ha; subst hc
    refine .inr ⟨g, _, cur, rfl, hb, hg, by omega, r2, r3, ?_⟩
    have : bcells (l.take k) = (bcells l).take k := by simp [bcells]
    rw [this, ← r4, List.take_take]
    congr 1
    omega
theorem take_splice {α : Type} (L : List α) (o : Nat) (cs : List α) (n : Nat) (h : o + cs.length ≤ n) (hn : n ≤ L.length) : (Go.splice L o cs).take n = Go.splice (L.take n) o cs := by
  apply List.ext_getElem?
  intro i
  unfold Go.splice
  simp only [List.getElem?_take, List.getElem?_append, List.length_take, List.getElem?_drop]
  grind
theorem OwnB.splice {w w' : World} {base g n c : Nat} {l b : List Int} {cur : Array Value} {o : Nat} (h : OwnB w base (some ⟨g, 0, none⟩) n c l) (hg : w.heap[g]? = some (.cells cur 5 (0, 0))) (hb : o + b.length ≤ n) (hg' : w'.heap[g]? = some (.cells (Go.splice cur.toList o (bcells b)).toArray 5 (0, 0))) : OwnB w' base (some ⟨g, 0, none⟩) n c (splB l o b) := by
  obtain ⟨hl, h1, h2⟩ := h
  refine ⟨by rw [splB_len (by omega)]; exact hl, by simp only [bcells, List.length_map]; rw [splB_len (by omega)]; omega, ?_⟩
  rcases h2 with ⟨hv, hn⟩ | ⟨g', cap, cur', hv, hb', hg2, r1, r2, r3, r4⟩
  · cases hv
  · injection hv with ha hn' hc
    injection ha with ha
    injection ha with ha
    subst ha; subst hc
    rw [hg] at hg2
    injection hg2 with hg2
    injection hg2 with hg2
    subst hg2
    have hcs : cur.toList.length = c := by rw [Array.length_toList, r3]; omega
    refine .inr ⟨g, _, _, rfl, hb', hg', r1, r2, ?_, ?_⟩
    · rw [List.size_toArray, Go.length_splice _ _ _ (by simp [bcells] at *; omega)]; omega
    · show ((Go.splice cur.toList o (bcells b))).take _ = _
      rw [Nat.mul_one] at *
      rw [take_splice _ _ _ _ (by simp [bcells]; omega) (by omega), r4]
      simp [splB, Go.splice, bcells]
/-- Bytes copied into a file of the call's own. -/
theorem run_copy_own {w : World} (ty : TypeId) {base g n c : Nat} {l : List Int} (hF : OwnB w base (some ⟨g, 0, none⟩) n c l) (o : Nat) {A : Option Addr} {m cb : Nat} {b : List Int} (hb : RdB w w.heap.size A b) (hm : b.length = m) (hm0 : 0 < m) (hfit : o + m ≤ n) :
    ∃ w', (Builtin.copy_ #[22, 22] ty #[.slice (some ⟨g, o, none⟩) (n - o) (c - o), .slice A m cb]).run Try.prog w = .ok (.int .i64 m) w' ∧ OwnB w' base (some ⟨g, 0, none⟩) n c (splB l o b) ∧ w.grownBy w' (some g) := by
  obtain ⟨h1, h2, h3, h4, cur, hcur, hcs⟩ := OwnB.block hF
  obtain ⟨x0, hx0⟩ := Sc.get_some b 0 (by omega)
  obtain ⟨bb, bo, rfl, hbb, _⟩ := hb 0 x0 hx0
  have hmin : m = Nat.min m (n - o) := (Nat.min_eq_left (by omega)).symm
  have hlen : (bcells b).length = m := by rw [bcells, List.length_map, hm]
  have hrun := run_copy_row (P := Try.prog) w 22 22 ty 5 g o (n - o) (c - o) ⟨bb, bo, none⟩ m cb cur 5 (bcells b) Try.underlying22 info5s hcur (by rw [hlen]; exact hmin) hb.cells (by rw [hlen]; omega) (Sc.bcells_one _)
  have e1 : (w.setRow g (cur.toList.take o ++ bcells b ++ cur.toList.drop (o + (bcells b).length)).toArray).heap[g]? = some (.cells (Go.splice cur.toList o (bcells b)).toArray 5 (0, 0)) := by
    rw [List.append_assoc]
    exact setRow_heap w g _ _ 5 _ hcur
  refine ⟨w.setRow g (cur.toList.take o ++ bcells b ++ cur.toList.drop (o + (bcells b).length)).toArray, ?_, OwnB.splice hF hcur (by omega) e1, ⟨rfl, rfl, rfl, by simp, fun k _ hk => setRow_other w g k _ (fun e => hk (by rw [e]))⟩⟩
  rw [hrun, hlen]
  rfl
/-! ### Texts that were made -/
structure TxV where
  A : Option Addr
  c : Nat
  t : List Int
def txCells (l : List TxV) : List Value := l.map fun v => .slice v.A v.t.length v.c
theorem txCells_append (l m : List TxV) : txCells (l ++ m) = txCells l ++ txCells m := by simp [txCells]
def OwnL (w : World) (base : Nat) (A : Option Addr) (n cap : Nat) (l : List TxV) : Prop := l.length = n ∧ w.ownsRow base 22 1 (.slice A n cap) n (txCells l)
theorem OwnL.nil (w : World) (base : Nat) : OwnL w base none 0 0 [] := ⟨rfl, World.ownsRow_nil _ _ _ _⟩
theorem OwnL.cap {w : World} {base n c : Nat} {A : Option Addr} {l : List TxV} (h : OwnL w base A n c l) : n ≤ c ∧ c ≤ maxLen := by
  obtain ⟨hl, h1, h2⟩ := h
  rcases h2 with ⟨hv, hn'⟩ | ⟨g, cap', cur, hv, hbg, hg, hnc, hcm, _⟩
  · injection hv with _ hn hc
    subst hc; omega
  · injection hv with ha _ hc
    subst hc
    exact ⟨hnc, hcm⟩
theorem OwnL.ty {w : World} {base n c : Nat} {A : Option Addr} {l : List TxV} (h : OwnL w base A n c l) {b : Nat} (hb : inA A b) : base ≤ b ∧ b < w.heap.size ∧ ∃ cs, w.heap[b]? = some (.cells cs 22 (0, 0)) := by
  rcases h.2.2 with ⟨hv, _⟩ | ⟨g, cap', cur, hv, hbg, hg, _⟩
  · injection hv with ha _ _
    subst ha
    exact absurd hb inA_none
  · injection hv with ha _ _
    subst ha
    have := inA_some.1 hb
    subst this
    exact ⟨hbg, (Array.getElem?_eq_some_iff.1 hg).1, cur, hg⟩
theorem OwnL.same {w w' : World} {base n c : Nat} {A : Option Addr} {l : List TxV} (h : OwnL w base A n c l) (hA : ∀ b, inA A b → w'.heap[b]? = w.heap[b]?) : OwnL w' base A n c l := ⟨h.1, row_same h.2 hA⟩
theorem OwnL.cellAt {w : World} {base n c : Nat} {A : Option Addr} {l : List TxV} (h : OwnL w base A n c l) {k : Nat} {v : TxV} (hs : l[k]? = some v) : ∃ b, A = some ⟨b, 0, none⟩ ∧ b < w.heap.size ∧ w.cell? ⟨b, k, none⟩ = some (.slice v.A v.t.length v.c) := by
  obtain ⟨hl, h⟩ := h
  have hk : k < l.length := (List.getElem?_eq_some_iff.1 hs).1
  have h2 := h.2
  rcases h2 with ⟨hv, hn⟩ | ⟨g, cap', cur, hv, hbg, hg, hr⟩
  · omega
  · injection hv with ha hn hcc
    subst ha; subst hcc
    have hlt : g < w.heap.size := (Array.getElem?_eq_some_iff.1 hg).1
    refine ⟨g, rfl, hlt, ?_⟩
    rw [h.cellAt _ (by omega)]
    simp [txCells, hs]
theorem ext_of_ownL {w' : World} {base : Nat} {v : Value} {n : Nat} {xs : List Value} (h : w'.ownsRow base 22 1 v n xs) : ∃ A cap, v = .slice A n cap := by
  rcases h.2 with ⟨hv, hn⟩ | ⟨g, cap', cur, hv, _⟩
  · subst hn; exact ⟨_, _, hv⟩
  · exact ⟨_, _, hv⟩
/-- A text in blocks of its own type, from a base on. -/
structure TxOk (w : World) (base : Nat) (v : TxV) : Prop where
  rd : RdB w w.heap.size v.A v.t
  ty : ∀ b, inA v.A b → base ≤ b ∧ ∃ cs p, w.heap[b]? = some (Obj.cells cs 5 p)
  cap : v.t.length ≤ v.c ∧ v.c ≤ maxLen
theorem RdB.same {w w' : World} {A : Option Addr} {l : List Int} (h : RdB w w.heap.size A l) (hs : w.heap.size ≤ w'.heap.size) (hA : ∀ b, inA A b → w'.heap[b]? = w.heap[b]?) : RdB w' w'.heap.size A l := by
  intro k v hv
  obtain ⟨b, off, rfl, hb, h0⟩ := h k v hv
  have e := hA b (inA_some.2 rfl)
  exact ⟨b, off, rfl, by omega, (World.cell?_of_block (w := w) (a := ⟨b, off + k, none⟩) e).trans h0⟩
theorem TxOk.same {w w' : World} {base : Nat} {v : TxV} (h : TxOk w base v) (hs : w.heap.size ≤ w'.heap.size) (hA : ∀ b, inA v.A b → w'.heap[b]? = w.heap[b]?) : TxOk w' base v :=
  ⟨RdB.same h.rd hs hA, fun b hb => by
    obtain ⟨h1, cs, p, e⟩ := h.ty b hb
    exact ⟨h1, cs, p, (hA b hb).trans e⟩, h.cap⟩
theorem TxOk.lt {w : World} {base : Nat} {v : TxV} (h : TxOk w base v) {b : Nat} (hb : inA v.A b) : b < w.heap.size := by
  obtain ⟨_, cs, p, e⟩ := h.ty b hb
  exact (Array.getElem?_eq_some_iff.1 e).1
theorem TxOk.of_own {w : World} {base n c : Nat} {A : Option Addr} {l : List Int} (h : OwnB w base A n c l) : TxOk w base ⟨A, c, l⟩ := by
  refine ⟨h.rd, fun b hb => ?_, ?_⟩
  · rcases h.2.2 with ⟨hv, _⟩ | ⟨g, cap', cur, hv, hbg, hg, _⟩
    · injection hv with ha _ _
      subst ha
      exact absurd hb inA_none
    · injection hv with ha _ _
      subst ha
      have := inA_some.1 hb
      subst this
      exact ⟨hbg, cur, _, hg⟩
  · have h1 := h.cap
    have h2 := h.1
    simp only; omega
theorem TxOk.mono {w : World} {base base' : Nat} {v : TxV} (h : TxOk w base v) (hb : base' ≤ base) : TxOk w base' v := ⟨h.rd, fun b hb' => ⟨by have := (h.ty b hb').1; omega, (h.ty b hb').2⟩, h.cap⟩
/-- The row of texts, and each text. -/
structure Txs (w : World) (base : Nat) (A : Option Addr) (n c : Nat) (L : List TxV) : Prop where
  row : OwnL w base A n c L
  tx : ∀ v ∈ L, TxOk w base v
theorem Txs.up {w w' : World} {base n c : Nat} {A : Option Addr} {L : List TxV} (h : Txs w base A n c L) (hb : Below w.heap.size w w') : Txs w' base A n c L :=
  ⟨h.row.same (fun b hb' => hb.block b (h.row.ty hb').2.1), fun v hv => (h.tx v hv).same hb.size (fun _ hb' => hb.block _ ((h.tx v hv).lt hb'))⟩
theorem Txs.beside {w w' : World} {base n c g : Nat} {A : Option Addr} {L : List TxV} (h : Txs w base A n c L) (hg : w.grownBy w' (some g)) (hb : g < base) : Txs w' base A n c L :=
  ⟨h.row.same (fun b hb' => hg.block b (h.row.ty hb').2.1 (fun e => by injection e with e; have := (h.row.ty hb').1; omega)),
   fun v hv => (h.tx v hv).same hg.size (fun b hb' => hg.block _ ((h.tx v hv).lt hb') (fun e => by injection e with e; have := ((h.tx v hv).ty b hb').1; omega))⟩
/-- One text more. -/
theorem Txs.push {w W0 w1 : World} {base n c : Nat} {A : Option Addr} {L : List TxV} (h : Txs w base A n c L) {v : TxV} (hv : TxOk w base v) (hbase : base ≤ w.heap.size) (hW : Below w.heap.size w W0) {v' : Value} (hown : w1.ownsRow base 22 1 v' (n + 1) (txCells L ++ txCells [v])) (hg : W0.grownBy w1 (Value.slice A n c).ownBlock) :
    ∃ A' c', v' = .slice A' (n + 1) c' ∧ Txs w1 base A' (n + 1) c' (L ++ [v]) ∧ Below base w w1 := by
  obtain ⟨A', c', rfl⟩ := ext_of_ownL hown
  have hblk : ∀ k, (Value.slice A n c).ownBlock = some k → base ≤ k ∧ k < w.heap.size := h.row.2.lt
  have key : ∀ b cs p, w.heap[b]? = some (Obj.cells cs 5 p) → w1.heap[b]? = w.heap[b]? := fun b cs p hb => by
    have hlt := (Array.getElem?_eq_some_iff.1 hb).1
    refine (hg.block b (by have := hW.size; omega) (fun e => ?_)).trans (hW.block b hlt)
    obtain ⟨_, _, cs', h'⟩ := h.row.ty (own_in.1 e.symm)
    rw [hb] at h'
    injection h' with h'
    injection h' with _ h' _
    cases h'
  have hsz : w.heap.size ≤ w1.heap.size := Nat.le_trans hW.size hg.size
  refine ⟨A', c', rfl, ⟨⟨by simp [h.row.1], by rw [txCells_append]; exact hown⟩, fun u hu => ?_⟩, ?_⟩
  · have hu' : TxOk w base u := by
      rcases List.mem_append.1 hu with hu | hu
      · exact h.tx u hu
      · simp at hu; subst hu; exact hv
    exact hu'.same hsz (fun b hb => by
      obtain ⟨_, cs, p, e⟩ := hu'.ty b hb
      exact key b cs p e)
  · exact ((Below.refl base w).trans (hW.mono hbase)).grown hg (by have := hW.size; omega) (fun k hk => (hblk k hk).1)
end Go.Proofs.Yteceephenfmdoaa
