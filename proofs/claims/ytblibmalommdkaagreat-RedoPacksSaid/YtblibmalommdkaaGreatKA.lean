/-
  KA: texts of one kind, one behind the other.
-/
import Derived.Test.YtblibmalommdkaaGreatMA
import Derived.Test.YtblibmalommdkaaGreatRD
import Derived.Test.YtblibmalommdkaaGreatSC
import Derived.Test.YtblibmalommdkaaGreatMD
import Derived.Deep.AppendLies
import Derived.Deep.RegionLaw
import Derived.Deep.LoopGhost
import Derived.Test.YtblibmalommdkaaGreatSF
/-
  Rows of steps, of waves, in memory (Moves' texts). No program in sight but its type numbers.
-/
namespace Go.Proofs.YtblibmalommdkaaGreat
open Go.RowKit
def inA (A : Option Addr) (b : Nat) : Prop := A.map Addr.block = some b
theorem inA_some {a : Addr} {b : Nat} : inA (some a) b ↔ a.block = b := by simp [inA]
theorem inA_none {b : Nat} : ¬ inA none b := by simp [inA]
theorem own_in {A : Option Addr} {n c b : Nat} : (Value.slice A n c).ownBlock = some b ↔ inA A b := by cases A <;> simp [Value.ownBlock, inA]
def stVal (s : StV) : Value := .agg #[.int .i64 s.blk, .slice s.A s.parts.length s.c]
def stCells (l : List StV) : List Value := l.flatMap fun s => [.int .i64 s.blk, .slice s.A s.parts.length s.c]
theorem stCells_len (l : List StV) : (stCells l).length = l.length * 2 := by
  induction l with
  | nil => rfl
  | cons a l ih => simp only [stCells, List.flatMap_cons, List.length_append, List.length_cons, List.length_nil] at *; omega
theorem stCells_append (l m : List StV) : stCells (l ++ m) = stCells l ++ stCells m := by simp [stCells]
theorem stCells_one (s : StV) : stCells [s] = [.int .i64 s.blk, .slice s.A s.parts.length s.c] := by simp [stCells]
theorem stCells_get : ∀ (l : List StV) (k : Nat) (s : StV), l[k]? = some s → (stCells l)[k * 2]? = some (.int .i64 s.blk) ∧ (stCells l)[k * 2 + 1]? = some (.slice s.A s.parts.length s.c) := by
  intro l
  induction l with
  | nil => intro k s h; simp at h
  | cons a l ih =>
    intro k s h
    cases k with
    | zero => simp at h; subst h; simp [stCells]
    | succ k =>
      have := ih k s (by simpa using h)
      have e : stCells (a :: l) = .int .i64 a.blk :: .slice a.A a.parts.length a.c :: stCells l := rfl
      rw [e]
      have e1 : (k + 1) * 2 = k * 2 + 1 + 1 := by omega
      rw [e1]
      simpa using this
theorem stCells_set : ∀ (l : List StV) (k : Nat) (s s' : StV), l[k]? = some s → s'.blk = s.blk → stCells (l.set k s') = (stCells l).set (k * 2 + 1) (.slice s'.A s'.parts.length s'.c) := by
  intro l
  induction l with
  | nil => intro k s s' h; simp at h
  | cons a l ih =>
    intro k s s' h hb
    have e : ∀ (a : StV) (l : List StV), stCells (a :: l) = .int .i64 a.blk :: .slice a.A a.parts.length a.c :: stCells l := fun _ _ => rfl
    cases k with
    | zero => simp at h; subst h; simp [e, hb]
    | succ k =>
      have := ih k s s' (by simpa using h) hb
      have e1 : (k + 1) * 2 + 1 = (k * 2 + 1) + 1 + 1 := by omega
      rw [List.set_cons_succ, e, e, this, e1]
      rfl
theorem stCells_one_cell (l : List StV) : ∀ v ∈ stCells l, v.oneCell' = true := by
  intro v hv
  obtain ⟨s, _, hs⟩ := List.mem_flatMap.1 hv
  simp at hs
  rcases hs with rfl | rfl <;> rfl
def OwnS (w : World) (base : Nat) (A : Option Addr) (n cap : Nat) (l : List StV) : Prop := l.length = n ∧ w.ownsRow base 78 2 (.slice A n cap) n (stCells l)
theorem OwnS.nil (w : World) (base : Nat) : OwnS w base none 0 0 [] := ⟨rfl, World.ownsRow_nil _ _ _ _⟩
theorem row_same {w w' : World} {base e sz n c : Nat} {A : Option Addr} {xs : List Value} (h : w.ownsRow base e sz (.slice A n c) n xs) (hA : ∀ b, inA A b → w'.heap[b]? = w.heap[b]?) : w'.ownsRow base e sz (.slice A n c) n xs := by
  obtain ⟨h1, h2⟩ := h
  refine ⟨h1, ?_⟩
  rcases h2 with h2 | ⟨g, cap, cur, hv, hb, hg, r⟩
  · exact .inl h2
  · injection hv with ha hn hc
    subst ha
    exact .inr ⟨g, cap, cur, by rw [hc], hb, (hA _ (inA_some.2 rfl)).trans hg, r⟩
theorem OwnS.same {w w' : World} {base n c : Nat} {A : Option Addr} {l : List StV} (h : OwnS w base A n c l) (hA : ∀ b, inA A b → w'.heap[b]? = w.heap[b]?) : OwnS w' base A n c l := ⟨h.1, row_same h.2 hA⟩
theorem OwnS.ty {w : World} {base n c : Nat} {A : Option Addr} {l : List StV} (h : OwnS w base A n c l) {b : Nat} (hb : inA A b) : base ≤ b ∧ b < w.heap.size ∧ ∃ cs, w.heap[b]? = some (Obj.cells cs 78 (0, 0)) := by
  rcases h.2.2 with ⟨hv, _⟩ | ⟨g, cap', cur, hv, hbg, hg, _⟩
  · injection hv with ha _ _
    subst ha
    exact absurd hb inA_none
  · injection hv with ha _ _
    subst ha
    have := inA_some.1 hb
    subst this
    exact ⟨hbg, (Array.getElem?_eq_some_iff.1 hg).1, cur, hg⟩
theorem OwnS.cap {w : World} {base n c : Nat} {A : Option Addr} {l : List StV} (h : OwnS w base A n c l) : n ≤ c ∧ c ≤ maxLen := by
  obtain ⟨hl, h1, h2⟩ := h
  rcases h2 with ⟨hv, hn'⟩ | ⟨g, cap', cur, hv, hbg, hg, hnc, hcm, _⟩
  · injection hv with _ hn hc
    subst hc; omega
  · injection hv with ha _ hc
    subst hc
    exact ⟨hnc, hcm⟩
theorem OwnS.cellAt {w : World} {base n c : Nat} {A : Option Addr} {l : List StV} (h : OwnS w base A n c l) {k : Nat} {s : StV} (hs : l[k]? = some s) : ∃ b, A = some ⟨b, 0, none⟩ ∧ b < w.heap.size ∧ w.cell? ⟨b, k * 2, none⟩ = some (.int .i64 s.blk) ∧ w.cell? ⟨b, k * 2 + 1, none⟩ = some (.slice s.A s.parts.length s.c) := by
  obtain ⟨hl, h⟩ := h
  have hk : k < l.length := (List.getElem?_eq_some_iff.1 hs).1
  have h2 := h.2
  have hc := stCells_get l k s hs
  rcases h2 with ⟨hv, hn⟩ | ⟨g, cap', cur, hv, hbg, hg, hr⟩
  · omega
  · injection hv with ha hn hcc
    subst ha; subst hcc
    have hlt : g < w.heap.size := (Array.getElem?_eq_some_iff.1 hg).1
    refine ⟨g, rfl, hlt, ?_, ?_⟩
    · rw [h.cellAt _ (by omega), hc.1]
    · rw [h.cellAt _ (by omega), hc.2]
theorem ext_of_ownS {w' : World} {base : Nat} {v : Value} {n : Nat} {xs : List Value} (h : w'.ownsRow base 78 2 v n xs) : ∃ A cap, v = .slice A n cap := by
  rcases h.2 with ⟨hv, hn⟩ | ⟨g, cap', cur, hv, _⟩
  · subst hn; exact ⟨_, _, hv⟩
  · exact ⟨_, _, hv⟩
theorem Sc.Rd.same {w w' : World} {A : Option Addr} {l : List S} (h : Sc.Rd w w.heap.size A l) (hs : w.heap.size ≤ w'.heap.size) (hA : ∀ b, inA A b → w'.heap[b]? = w.heap[b]?) : Sc.Rd w' w'.heap.size A l := by
  intro k v hv
  obtain ⟨b, off, rfl, hb, h0, h1, h2⟩ := h k v hv
  have e := hA b (inA_some.2 rfl)
  exact ⟨b, off, rfl, by omega, (World.cell?_of_block (w := w) (a := ⟨b, off + k * 3, none⟩) e).trans h0, (World.cell?_of_block (w := w) (a := ⟨b, off + k * 3 + 1, none⟩) e).trans h1, (World.cell?_of_block (w := w) (a := ⟨b, off + k * 3 + 2, none⟩) e).trans h2⟩
theorem Rd.same {w w' : World} {A : Option Addr} {l : List R} (h : Rd w w.heap.size A l) (hs : w.heap.size ≤ w'.heap.size) (hA : ∀ b, inA A b → w'.heap[b]? = w.heap[b]?) : Rd w' w'.heap.size A l := by
  intro k v hv
  obtain ⟨b, off, rfl, hb, h0, h1⟩ := h k v hv
  have e := hA b (inA_some.2 rfl)
  exact ⟨b, off, rfl, by omega, (World.cell?_of_block (w := w) (a := ⟨b, off + k * 2, none⟩) e).trans h0, (World.cell?_of_block (w := w) (a := ⟨b, off + k * 2 + 1, none⟩) e).trans h1⟩
def wvCells (l : List WvV) : List Value := l.map fun v => .slice v.A v.steps.length v.c
theorem wvCells_append (l m : List WvV) : wvCells (l ++ m) = wvCells l ++ wvCells m := by simp [wvCells]
def OwnW (w : World) (base : Nat) (A : Option Addr) (n cap : Nat) (l : List WvV) : Prop := l.length = n ∧ w.ownsRow base 75 1 (.slice A n cap) n (wvCells l)
theorem OwnW.nil (w : World) (base : Nat) : OwnW w base none 0 0 [] := ⟨rfl, World.ownsRow_nil _ _ _ _⟩
theorem OwnW.cap {w : World} {base n c : Nat} {A : Option Addr} {l : List WvV} (h : OwnW w base A n c l) : n ≤ c ∧ c ≤ maxLen := by
  obtain ⟨hl, h1, h2⟩ := h
  rcases h2 with ⟨hv, hn'⟩ | ⟨g, cap', cur, hv, hbg, hg, hnc, hcm, _⟩
  · injection hv with _ hn hc
    subst hc; omega
  · injection hv with ha _ hc
    subst hc
    exact ⟨hnc, hcm⟩
theorem OwnW.ty {w : World} {base n c : Nat} {A : Option Addr} {l : List WvV} (h : OwnW w base A n c l) {b : Nat} (hb : inA A b) : base ≤ b ∧ b < w.heap.size ∧ ∃ cs, w.heap[b]? = some (.cells cs 75 (0, 0)) := by
  rcases h.2.2 with ⟨hv, _⟩ | ⟨g, cap', cur, hv, hbg, hg, _⟩
  · injection hv with ha _ _
    subst ha
    exact absurd hb inA_none
  · injection hv with ha _ _
    subst ha
    have := inA_some.1 hb
    subst this
    exact ⟨hbg, (Array.getElem?_eq_some_iff.1 hg).1, cur, hg⟩
theorem OwnW.same {w w' : World} {base n c : Nat} {A : Option Addr} {l : List WvV} (h : OwnW w base A n c l) (hA : ∀ b, inA A b → w'.heap[b]? = w.heap[b]?) : OwnW w' base A n c l := ⟨h.1, row_same h.2 hA⟩
theorem OwnW.cellAt {w : World} {base n c : Nat} {A : Option Addr} {l : List WvV} (h : OwnW w base A n c l) {k : Nat} {v : WvV} (hs : l[k]? = some v) : ∃ b, A = some ⟨b, 0, none⟩ ∧ b < w.heap.size ∧ w.cell? ⟨b, k, none⟩ = some (.slice v.A v.steps.length v.c) := by
  obtain ⟨hl, h⟩ := h
  have hk : k < l.length := (List.getElem?_eq_some_iff.1 hs).1
  have h2 := h.2
  rcases h2 with ⟨hv, hn⟩ | ⟨g, cap', cur, hv, hbg, hg, hr⟩
  · omega
  · injection hv with ha hn hcc
    subst ha; subst hcc
    have hlt : g < w.heap.size := (Array.getElem?_eq_some_iff.1 hg).1
    refine ⟨g, rfl, hlt, ?_⟩
    rw [h.cellAt _ (by omega)]
    simp [wvCells, hs]
theorem info43 : (Tryz.prog.info? 75).map (fun i => (i.zero, i.size, i.bytes)) = some (some (.slice none 0 0), 1, 24) := by kernel_rfl
theorem three_heap {w : World} {pb : Nat} {a b c : Value} {T : TypeId} (h : w.heap[pb]? = some (.cells #[a, b, c] T (0, 0))) (v0 v1 v2 : Value) : (((w.setCell ⟨pb, 0, none⟩ v0).setCell ⟨pb, 1, none⟩ v1).setCell ⟨pb, 2, none⟩ v2).heap[pb]? = some (.cells #[v0, v1, v2] T (0, 0)) := by
  have e1 := heap_setCell_same w pb 0 _ T v0 h
  have e2 := heap_setCell_same _ pb 1 _ T v1 e1
  have e3 := heap_setCell_same _ pb 2 _ T v2 e2
  rw [e3]; simp
theorem info70 : (Tryz.prog.info? 78).map (fun i => (i.zero, i.size, i.bytes)) = some (some (.agg #[.int .i64 0, .slice none 0 0]), 2, 32) := by kernel_rfl
end Go.Proofs.YtblibmalommdkaaGreat

/-
  A plan whose rows are all the call's own, each wave in a block beside the others; what stays of it, what is put behind.
-/
namespace Go.Proofs.YtblibmalommdkaaGreat
open Go.RowKit
theorem row_in {w : World} {base e sz n c : Nat} {A : Option Addr} {xs : List Value} (h : w.ownsRow base e sz (.slice A n c) n xs) {b : Nat} (hb : inA A b) : base ≤ b ∧ b < w.heap.size ∧ ∃ cs, w.heap[b]? = some (Obj.cells cs e (0, 0)) := by
  rcases h.2 with ⟨hv, _⟩ | ⟨g, cap', cur, hv, hbg, hg, _⟩
  · injection hv with ha _ _
    subst ha
    exact absurd hb inA_none
  · injection hv with ha _ _
    subst ha
    have := inA_some.1 hb
    subst this
    exact ⟨hbg, (Array.getElem?_eq_some_iff.1 hg).1, cur, hg⟩
theorem row_mono {w : World} {base base' e sz n : Nat} {v : Value} {xs : List Value} (h : w.ownsRow base e sz v n xs) (hB : base' ≤ base) : w.ownsRow base' e sz v n xs := by
  obtain ⟨h1, h2⟩ := h
  refine ⟨h1, ?_⟩
  rcases h2 with h2 | ⟨g, cap', cur, hv, hbg, hr⟩
  · exact .inl h2
  · exact .inr ⟨g, cap', cur, hv, by omega, hr⟩
theorem row_hi {w w' : World} {base e sz n c : Nat} {A : Option Addr} {xs : List Value} (h : w.ownsRow base e sz (.slice A n c) n xs) (hk : ∀ b, base ≤ b → b < w.heap.size → (∃ cs, w.heap[b]? = some (Obj.cells cs e (0, 0))) → w'.heap[b]? = w.heap[b]?) : w'.ownsRow base e sz (.slice A n c) n xs :=
  row_same h fun b hb => hk b (row_in h hb).1 (row_in h hb).2.1 (row_in h hb).2.2
/-- A wave whose rows are the call's own. -/
structure OwnV (w : World) (base : Nat) (v : WvV) : Prop where
  row : OwnS w base v.A v.steps.length v.c v.steps
  parts : ∀ s ∈ v.steps, Sc.Own w base s.A s.parts.length s.c s.parts
structure OwnP (w : World) (base : Nat) (p : PlV) : Prop where
  st : Own w base p.SA p.stash.length p.sc p.stash
  wv : OwnW w base p.WA p.waves.length p.wc p.waves
  ws : ∀ v ∈ p.waves, OwnV w base v
  ap : ∀ (i j : Nat) u v b, p.waves[i]? = some u → p.waves[j]? = some v → inA u.A b → inA v.A b → i = j
/-- What stays where blocks of a row's type stay. -/
def Kt (w w' : World) (base e : Nat) : Prop := ∀ b, base ≤ b → b < w.heap.size → (∃ cs, w.heap[b]? = some (Obj.cells cs e (0, 0))) → w'.heap[b]? = w.heap[b]?
theorem Kt.of_below {w w' : World} {base e B : Nat} (hb : Below B w w') (hB : w.heap.size ≤ B) : Kt w w' base e := fun b _ h _ => hb.block b (by omega)
theorem Kt.of_box {w w' : World} {base e : Nat} (h : ∀ b, base ≤ b → b < w.heap.size → w'.heap[b]? = w.heap[b]?) : Kt w w' base e := fun b h1 h2 _ => h b h1 h2
theorem OwnV.keep {w w' : World} {base : Nat} {v : WvV} (h : OwnV w base v) (h70 : Kt w w' base 78) (h48 : Kt w w' base 80) : OwnV w' base v := ⟨⟨h.row.1, row_hi h.row.2 h70⟩, fun s hs => ⟨(h.parts s hs).1, row_hi (h.parts s hs).2 h48⟩⟩
theorem OwnV.mono {w : World} {base base' : Nat} {v : WvV} (h : OwnV w base v) (hB : base' ≤ base) : OwnV w base' v := ⟨⟨h.row.1, row_mono h.row.2 hB⟩, fun s hs => (h.parts s hs).mono hB⟩
theorem OwnP.keep {w w' : World} {base : Nat} {p : PlV} (h : OwnP w base p) (h67 : Kt w w' base 74) (h43 : Kt w w' base 75) (h70 : Kt w w' base 78) (h48 : Kt w w' base 80) : OwnP w' base p :=
  ⟨⟨h.st.1, row_hi h.st.2 h67⟩, ⟨h.wv.1, row_hi h.wv.2 h43⟩, fun v hv => (h.ws v hv).keep h70 h48, h.ap⟩
theorem OwnP.below {w w' : World} {base B : Nat} {p : PlV} (h : OwnP w base p) (hb : Below B w w') (hB : w.heap.size ≤ B) : OwnP w' base p := h.keep (.of_below hb hB) (.of_below hb hB) (.of_below hb hB) (.of_below hb hB)
theorem OwnP.box {w w' : World} {base : Nat} {p : PlV} (h : OwnP w base p) (hk : ∀ b, base ≤ b → b < w.heap.size → w'.heap[b]? = w.heap[b]?) : OwnP w' base p := h.keep (.of_box hk) (.of_box hk) (.of_box hk) (.of_box hk)
theorem OwnP.mono {w : World} {base base' : Nat} {p : PlV} (h : OwnP w base p) (hB : base' ≤ base) : OwnP w base' p := ⟨h.st.mono hB, ⟨h.wv.1, row_mono h.wv.2 hB⟩, fun v hv => (h.ws v hv).mono hB, h.ap⟩
theorem OwnS.none {w : World} {base n c : Nat} {A : Option Addr} {l : List StV} (h : OwnS w base A n c l) : A = .none → n = 0 ∧ c = 0 := by
  intro hA
  rcases h.2.2 with ⟨hv, hn⟩ | ⟨g, cap', cur, hv, _⟩
  · injection hv with _ _ hc
    exact ⟨hn, hc⟩
  · injection hv with ha _ _
    rw [hA] at ha; cases ha
theorem OwnW.none {w : World} {base n c : Nat} {A : Option Addr} {l : List WvV} (h : OwnW w base A n c l) : A = .none → n = 0 ∧ c = 0 := by
  intro hA
  rcases h.2.2 with ⟨hv, hn⟩ | ⟨g, cap', cur, hv, _⟩
  · injection hv with _ _ hc
    exact ⟨hn, hc⟩
  · injection hv with ha _ _
    rw [hA] at ha; cases ha
theorem OwnV.ok {w : World} {base : Nat} {v : WvV} (h : OwnV w base v) (hb : ∀ s ∈ v.steps, I64 s.blk) : WvOk w w.heap.size v := by
  refine ⟨fun k s hs => ?_, ?_, h.row.none⟩
  · obtain ⟨b, e, hlt, c0, c1⟩ := h.row.cellAt hs
    have hin := List.mem_of_getElem? hs
    have hp := h.parts s hin
    refine ⟨b, 0, e, hlt, by simpa using c0, by simpa using c1, hp.rd, ?_, hp.none, hb s hin⟩
    have := hp.cap
    unfold maxLen at this
    omega
  · have := h.row.cap
    unfold maxLen at this
    omega
theorem OwnP.ok {w : World} {base : Nat} {p : PlV} (h : OwnP w base p) (hb : ∀ v ∈ p.waves, ∀ s ∈ v.steps, I64 s.blk) (hi : IR p.stash) (hs : I64 p.size) : PlOk w w.heap.size p := by
  refine ⟨h.st.rd, ?_, h.st.none, hi, fun k v hv => ?_, ?_, h.wv.none, hs⟩
  · have := h.st.cap
    unfold maxLen at this
    omega
  · obtain ⟨b, e, hlt, c0⟩ := h.wv.cellAt hv
    have hin := List.mem_of_getElem? hv
    exact ⟨b, 0, e, hlt, by simpa using c0, (h.ws v hin).ok (hb v hin)⟩
  · have := h.wv.cap
    unfold maxLen at this
    omega
/-- A wave put behind. -/
theorem OwnP.push {w W0 w5 : World} {B : Nat} {p : PlV} (h : OwnP w B p) {v : WvV} (hv : OwnV w B v) (hap : ∀ u ∈ p.waves, ∀ b, inA v.A b → ¬ inA u.A b) (hW : Below w.heap.size w W0) {A' : Option Addr} {c' : Nat} (hown : w5.ownsRow B 75 1 (.slice A' (p.waves.length + 1) c') (p.waves.length + 1) (wvCells p.waves ++ wvCells [v])) (hg : W0.grownBy w5 (Value.slice p.WA p.waves.length p.wc).ownBlock) :
    OwnP w5 B ⟨p.size, p.SA, p.sc, p.stash, A', c', p.waves ++ [v]⟩ := by
  have key : ∀ e, e ≠ 75 → Kt w w5 B e := fun e he b hb hlt ⟨cs, hc⟩ => by
    have := hW.size
    rw [hg.block b (by omega) (fun hrow => by
      obtain ⟨_, _, cs', hc'⟩ := h.wv.ty (own_in.1 hrow.symm)
      rw [hc] at hc'
      injection hc' with hc'
      injection hc' with _ h1 _
      exact he h1), hW.block b hlt]
  refine ⟨⟨h.st.1, row_hi h.st.2 (key 74 (by decide))⟩, ⟨rfl, ?_⟩, fun u hu => ?_, fun i j u u' b hi hj hb1 hb2 => ?_⟩
  · rw [wvCells_append]
    simpa using hown
  · rcases List.mem_append.1 hu with hu | hu
    · exact (h.ws u hu).keep (key 78 (by decide)) (key 80 (by decide))
    · simp at hu
      subst hu
      exact hv.keep (key 78 (by decide)) (key 80 (by decide))
  · simp only at hi hj
    by_cases h1 : i < p.waves.length
    · rw [List.getElem?_append_left h1] at hi
      by_cases h2 : j < p.waves.length
      · rw [List.getElem?_append_left h2] at hj
        exact h.ap i j u u' b hi hj hb1 hb2
      · have e : j = p.waves.length := by
          have := (List.getElem?_eq_some_iff.1 hj).1
          simp at this; omega
        subst e
        simp at hj
        subst hj
        exact absurd hb1 (hap u (List.mem_of_getElem? hi) b hb2)
    · have e : i = p.waves.length := by
        have := (List.getElem?_eq_some_iff.1 hi).1
        simp at this; omega
      subst e
      simp at hi
      subst hi
      by_cases h2 : j < p.waves.length
      · rw [List.getElem?_append_left h2] at hj
        exact absurd hb2 (hap u' (List.mem_of_getElem? hj) b hb1)
      · have e : j = p.waves.length := by
          have := (List.getElem?_eq_some_iff.1 hj).1
          simp at this; omega
        exact e.symm
/-- Bytes, scraps, ranges appended to nothing. -/
theorem told_scraps (W : World) (A : Option Addr) (n c : Nat) (l : List S) (hl : l.length = n) (hr : Sc.Rd W W.heap.size A l) (hno : A = none → n = 0 ∧ c = 0) (hn : n * 24 ≤ 140737488355328) :
    ∃ A' c' w2, (Sc.appTold #[76, 76] 76 #[.slice none 0 0, .slice A n c]).run Tryz.prog W = .ok (.slice A' n c') w2 ∧ Sc.Own w2 W.heap.size A' n c' l ∧ Below W.heap.size W w2 := by
  obtain ⟨i0, hi, hz0, hz1, hz2⟩ := info_parts Sc.info31
  have hown : W.ownsRow W.heap.size 80 3 (.slice none 0 0) 0 [] := World.ownsRow_nil _ _ _ _
  cases A with
  | none =>
    obtain ⟨rfl, rfl⟩ := hno rfl
    obtain rfl := List.eq_nil_of_length_eq_zero hl
    have hrun := run_append_owned_none (P := Tryz.prog) (w := W) W.heap.size 76 76 80 i0 3 Tryz.underlying76 hi (.slice none 0 0) 0 [] hown
    exact ⟨none, 0, W, hrun, Sc.Own.nil _ _, Below.refl _ _⟩
  | some ad =>
    obtain ⟨v', w', hrun, h2, h3, _⟩ := run_append_own (P := Tryz.prog) W W.heap.size 76 76 80 i0 _ 3 24 Tryz.underlying76 hi hz0 hz1 hz2 rfl (by decide) (.slice none 0 0) 0 [] hown ad n c (Sc.cells l) (by rw [Sc.cells_len, hl]) (hr.cells ad rfl) (Sc.cells_one_cell _) (by unfold maxLen; omega) (by omega) (Nat.le_refl _)
    obtain ⟨A'', c'', hv⟩ : ∃ A cap, v' = .slice A (0 + n) cap := by
      rcases h2.2 with ⟨hv, hn⟩ | ⟨g, cap', cur, hv, _⟩
      · rw [hn]; exact ⟨_, _, hv⟩
      · exact ⟨_, _, hv⟩
    subst hv
    rw [Nat.zero_add] at hrun h2
    refine ⟨A'', c'', w', hrun, ⟨hl, by simpa using h2⟩, (Below.refl _ _).grown h3 (Nat.le_refl _) (fun k hk => by cases hk)⟩
end Go.Proofs.YtblibmalommdkaaGreat
