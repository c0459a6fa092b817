/-
  The work of a plan that is being made, in memory: two maps, the stash, the order; what each change leaves.
-/
import Derived.Test.YteceephenfmdoaaKMap
import Derived.Test.YteceephenfmdoaaKWreads
import Derived.Test.YteceephenfmdoaaKWmoved
namespace Go.Proofs.Yteceephenfmdoaa
open Go.RowKit
def inA (A : Option Addr) (b : Nat) : Prop := A.map Addr.block = some b
theorem inA_some {a : Addr} {b : Nat} : inA (some a) b ↔ a.block = b := by simp [inA]
theorem inA_none {b : Nat} : ¬ inA none b := by simp [inA]
theorem own_in {A : Option Addr} {n c b : Nat} : (Value.slice A n c).ownBlock = some b ↔ inA A b := by cases A <;> simp [Value.ownBlock, inA]
/-! ### Rows of steps -/
def stVal (s : StV) : Value := .agg #[.int .i64 s.blk, .slice s.A s.parts.length s.c]
def stCells (l : List StV) : List Value := l.flatMap fun s => [.int .i64 s.blk, .slice s.A s.parts.length s.c]
theorem stCells_len (l : List StV) : (stCells l).length = l.length * 2 := by
  induction l with
  | nil => rfl
  | cons a l ih => simp only [stCells, List.flatMap_cons, List.length_append, List.length_cons, List.length_nil] at *; omega
theorem stCells_append (l m : List StV) : stCells (l ++ m) = stCells l ++ stCells m := by simp [stCells]
theorem stCells_one (s : StV) : stCells [s] = [.int .i64 s.blk, .slice s.A s.parts.length s.c] := by simp [stCells]
theorem stCells_get : ∀ (l : List StV) (k : Nat) (s : StV), l[k]? = some s → (stCells l)[k * 2]? = some (.int .i64 s.blk) ∧ (stCells l)[k * 2 + 1]? = some (.slice s.A s.parts.length s.c) := by
  intro l
  induction l with
  | nil => intro k s h; simp at h
  | cons a l ih =>
    intro k s h
    cases k with
    | zero => simp at h; subst h; simp [stCells]
    | succ k =>
      have := ih k s (by simpa using h)
      have e : stCells (a :: l) = .int .i64 a.blk :: .slice a.A a.parts.length a.c :: stCells l := rfl
      rw [e]
      have e1 : (k + 1) * 2 = k * 2 + 1 + 1 := by omega
      rw [e1]
      simpa using this
theorem stCells_set : ∀ (l : List StV) (k : Nat) (s s' : StV), l[k]? = some s → s'.blk = s.blk → stCells (l.set k s') = (stCells l).set (k * 2 + 1) (.slice s'.A s'.parts.length s'.c) := by
  intro l
  induction l with
  | nil => intro k s s' h; simp at h
  | cons a l ih =>
    intro k s s' h hb
    have e : ∀ (a : StV) (l : List StV), stCells (a :: l) = .int .i64 a.blk :: .slice a.A a.parts.length a.c :: stCells l := fun _ _ => rfl
    cases k with
    | zero => simp at h; subst h; simp [e, hb]
    | succ k =>
      have := ih k s s' (by simpa using h) hb
      have e1 : (k + 1) * 2 + 1 = (k * 2 + 1) + 1 + 1 := by omega
      rw [List.set_cons_succ, e, e, this, e1]
      rfl
theorem stCells_one_cell (l : List StV) : ∀ v ∈ stCells l, v.oneCell' = true := by
  intro v hv
  obtain ⟨s, _, hs⟩ := List.mem_flatMap.1 hv
  simp at hs
  rcases hs with rfl | rfl <;> rfl
def OwnS (w : World) (base : Nat) (A : Option Addr) (n cap : Nat) (l : List StV) : Prop := l.length = n ∧ w.ownsRow base 70 2 (.slice A n cap) n (stCells l)
theorem OwnS.nil (w : World) (base : Nat) : OwnS w base none 0 0 [] := ⟨rfl, World.ownsRow_nil _ _ _ _⟩
theorem row_same {w w' : World} {base e sz n c : Nat} {A : Option Addr} {xs : List Value} (h : w.ownsRow base e sz (.slice A n c) n xs) (hA : ∀ b, inA A b → w'.heap[b]? = w.heap[b]?) : w'.ownsRow base e sz (.slice A n c) n xs := by
  obtain ⟨h1, h2⟩ := h
  refine ⟨h1, ?_⟩
  rcases h2 with h2 | ⟨g, cap, cur, hv, hb, hg, r⟩
  · exact .inl h2
  · injection hv with ha hn hc
    subst ha
    exact .inr ⟨g, cap, cur, by rw [hc], hb, (hA _ (inA_some.2 rfl)).trans hg, r⟩
theorem OwnS.same {w w' : World} {base n c : Nat} {A : Option Addr} {l : List StV} (h : OwnS w base A n c l) (hA : ∀ b, inA A b → w'.heap[b]? = w.heap[b]?) : OwnS w' base A n c l := ⟨h.1, row_same h.2 hA⟩
theorem OwnS.ty {w : World} {base n c : Nat} {A : Option Addr} {l : List StV} (h : OwnS w base A n c l) {b : Nat} (hb : inA A b) : base ≤ b ∧ b < w.heap.size ∧ ∃ cs, w.heap[b]? = some (Obj.cells cs 70 (0, 0)) := by
  rcases h.2.2 with ⟨hv, _⟩ | ⟨g, cap', cur, hv, hbg, hg, _⟩
  · injection hv with ha _ _
    subst ha
    exact absurd hb inA_none
  · injection hv with ha _ _
    subst ha
    have := inA_some.1 hb
    subst this
    exact ⟨hbg, (Array.getElem?_eq_some_iff.1 hg).1, cur, hg⟩
theorem OwnS.cap {w : World} {base n c : Nat} {A : Option Addr} {l : List StV} (h : OwnS w base A n c l) : n ≤ c ∧ c ≤ maxLen := by
  obtain ⟨hl, h1, h2⟩ := h
  rcases h2 with ⟨hv, hn'⟩ | ⟨g, cap', cur, hv, hbg, hg, hnc, hcm, _⟩
  · injection hv with _ hn hc
    subst hc; omega
  · injection hv with ha _ hc
    subst hc
    exact ⟨hnc, hcm⟩
theorem OwnS.cellAt {w : World} {base n c : Nat} {A : Option Addr} {l : List StV} (h : OwnS w base A n c l) {k : Nat} {s : StV} (hs : l[k]? = some s) : ∃ b, A = some ⟨b, 0, none⟩ ∧ b < w.heap.size ∧ w.cell? ⟨b, k * 2, none⟩ = some (.int .i64 s.blk) ∧ w.cell? ⟨b, k * 2 + 1, none⟩ = some (.slice s.A s.parts.length s.c) := by
  obtain ⟨hl, h⟩ := h
  have hk : k < l.length := (List.getElem?_eq_some_iff.1 hs).1
  have h2 := h.2
  have hc := stCells_get l k s hs
  rcases h2 with ⟨hv, hn⟩ | ⟨g, cap', cur, hv, hbg, hg, hr⟩
  · omega
  · injection hv with ha hn hcc
    subst ha; subst hcc
    have hlt : g < w.heap.size := (Array.getElem?_eq_some_iff.1 hg).1
    refine ⟨g, rfl, hlt, ?_, ?_⟩
    · rw [h.cellAt _ (by omega), hc.1]
    · rw [h.cellAt _ (by omega), hc.2]
theorem ext_of_ownS {w' : World} {base : Nat} {v : Value} {n : Nat} {xs : List Value} (h : w'.ownsRow base 70 2 v n xs) : ∃ A cap, v = .slice A n cap := by
  rcases h.2 with ⟨hv, hn⟩ | ⟨g, cap', cur, hv, _⟩
  · subst hn; exact ⟨_, _, hv⟩
  · exact ⟨_, _, hv⟩
/-! ### Steps and a stash that read, in blocks of their own types -/
structure StG (w : World) (s : StV) : Prop where
  ok : StOk w w.heap.size s
  ty : ∀ b, inA s.A b → ∃ cs p, w.heap[b]? = some (Obj.cells cs 48 p)
  may : Sc.MayP s.parts
  few : Sc.tot s.parts ≤ 64
theorem StG.len {w : World} {s : StV} (h : StG w s) : s.parts.length ≤ 64 := by have := Sc.len_le_tot _ h.may.1; have := h.few; omega
theorem Sc.Rd.same {w w' : World} {A : Option Addr} {l : List S} (h : Sc.Rd w w.heap.size A l) (hs : w.heap.size ≤ w'.heap.size) (hA : ∀ b, inA A b → w'.heap[b]? = w.heap[b]?) : Sc.Rd w' w'.heap.size A l := by
  intro k v hv
  obtain ⟨b, off, rfl, hb, h0, h1, h2⟩ := h k v hv
  have e := hA b (inA_some.2 rfl)
  exact ⟨b, off, rfl, by omega, (World.cell?_of_block (w := w) (a := ⟨b, off + k * 3, none⟩) e).trans h0, (World.cell?_of_block (w := w) (a := ⟨b, off + k * 3 + 1, none⟩) e).trans h1, (World.cell?_of_block (w := w) (a := ⟨b, off + k * 3 + 2, none⟩) e).trans h2⟩
theorem Rd.same {w w' : World} {A : Option Addr} {l : List R} (h : Rd w w.heap.size A l) (hs : w.heap.size ≤ w'.heap.size) (hA : ∀ b, inA A b → w'.heap[b]? = w.heap[b]?) : Rd w' w'.heap.size A l := by
  intro k v hv
  obtain ⟨b, off, rfl, hb, h0, h1⟩ := h k v hv
  have e := hA b (inA_some.2 rfl)
  exact ⟨b, off, rfl, by omega, (World.cell?_of_block (w := w) (a := ⟨b, off + k * 2, none⟩) e).trans h0, (World.cell?_of_block (w := w) (a := ⟨b, off + k * 2 + 1, none⟩) e).trans h1⟩
theorem StG.same {w w' : World} {s : StV} (h : StG w s) (hs : w.heap.size ≤ w'.heap.size) (hk : ∀ (b : Nat) cs (p : Nat × Nat), w.heap[b]? = some (Obj.cells cs 48 p) → w'.heap[b]? = w.heap[b]?) : StG w' s := by
  have hA : ∀ b, inA s.A b → w'.heap[b]? = w.heap[b]? := fun b hb => by
    obtain ⟨cs, p, e⟩ := h.ty b hb
    exact hk b cs p e
  exact ⟨⟨Sc.Rd.same h.ok.rd hs hA, h.ok.cap, h.ok.no, h.ok.b⟩, fun b hb => by
    obtain ⟨cs, p, e⟩ := h.ty b hb
    exact ⟨cs, p, (hA b hb).trans e⟩, h.may, h.few⟩
structure StR (w : World) (A : Option Addr) (c : Nat) (l : List R) : Prop where
  rd : Rd w w.heap.size A l
  ty : ∀ b, inA A b → ∃ cs p, w.heap[b]? = some (Obj.cells cs 67 p)
  cap : l.length ≤ c ∧ c ≤ 9223372036854775807
  no : A = none → l.length = 0 ∧ c = 0
theorem StR.same {w w' : World} {A : Option Addr} {c : Nat} {l : List R} (h : StR w A c l) (hs : w.heap.size ≤ w'.heap.size) (hk : ∀ (b : Nat) cs (p : Nat × Nat), w.heap[b]? = some (Obj.cells cs 67 p) → w'.heap[b]? = w.heap[b]?) : StR w' A c l := by
  have hA : ∀ b, inA A b → w'.heap[b]? = w.heap[b]? := fun b hb => by
    obtain ⟨cs, p, e⟩ := h.ty b hb
    exact hk b cs p e
  exact ⟨h.rd.same hs hA, fun b hb => by
    obtain ⟨cs, p, e⟩ := h.ty b hb
    exact ⟨cs, p, (hA b hb).trans e⟩, h.cap, h.no⟩
theorem StR.of_own {w : World} {base n c : Nat} {A : Option Addr} {l : List R} (h : Own w base A n c l) : StR w A c l := by
  refine ⟨h.rd, fun b hb => ?_, ?_, fun hA => ?_⟩
  · rcases h.2.2 with ⟨hv, _⟩ | ⟨g, cap', cur, hv, hbg, hg, _⟩
    · injection hv with ha _ _
      subst ha
      exact absurd hb inA_none
    · injection hv with ha _ _
      subst ha
      have := inA_some.1 hb
      subst this
      exact ⟨cur, _, hg⟩
  · have := h.cap
    have := h.1
    unfold maxLen at *
    omega
  · have := h.none hA
    have := h.1
    omega
theorem StG.of_own {w : World} {base n c : Nat} {A : Option Addr} {l : List S} (h : Sc.Own w base A n c l) (blk : Int) (hb : I64 blk) (hM : Sc.MayP l) (hl : Sc.tot l ≤ 64) : StG w ⟨blk, A, c, l⟩ := by
  refine ⟨⟨h.rd, ?_, fun hA => ?_, hb⟩, fun b hb => ?_, hM, hl⟩
  · have := h.cap
    have := h.1
    unfold maxLen at *
    simp only
    omega
  · have := h.none hA
    have := h.1
    simp only
    omega
  · rcases h.2.2 with ⟨hv, _⟩ | ⟨g, cap', cur, hv, hbg, hg, _⟩
    · injection hv with ha _ _
      subst ha
      exact absurd hb inA_none
    · injection hv with ha _ _
      subst ha
      have := inA_some.1 hb
      subst this
      exact ⟨cur, _, hg⟩
/-! ### The work -/
theorem map78 : MapTyV Try.prog 78 3 70 (.agg #[.int .i64 0, .slice none 0 0]) := ⟨Try.underlying78, Try.underlying3, fun w => by kernel_rfl⟩
theorem map79 : MapTyV Try.prog 79 3 3 (.int .i64 0) := ⟨Try.underlying79, Try.underlying3, fun w => by kernel_rfl⟩
/-- A map of counts. -/
def RdM (w : World) (rb : Nat) (rd : Int → Int) : Prop := ∃ ru, VM w Try.prog 3 rb 20000 ru ∧ ∀ j, 0 ≤ j → j < 20000 → (ru j).getD (.int .i64 0) = .int .i64 (rd j)
def updI (f : Int → Int) (k x : Int) : Int → Int := fun j => if j = k then x else f j
def updS (u : Int → Option StV) (k : Int) (x : Option StV) : Int → Option StV := fun j => if j = k then x else u j
theorem updS_map (u : Int → Option StV) (k : Int) (x : Option StV) : (fun j => (updS u k x j).map stVal) = updV (fun j => (u j).map stVal) k (x.map stVal) := by
  funext j
  unfold updS updV
  split <;> rfl
theorem RdM.look {w : World} {rb : Nat} {rd : Int → Int} (h : RdM w rb rd) {j : Int} (h0 : 0 ≤ j) (h1 : j < 20000) : (Instr.lookup 79 (.map (some rb)) (.int .i64 j) false).run Try.prog w = .ok (.int .i64 (rd j)) w := by
  obtain ⟨ru, h2, h3⟩ := h
  rw [h2.lookup map79 (show I64 j by unfold I64; omega), h3 j h0 h1]
theorem RdM.store {w : World} {rb : Nat} {rd : Int → Int} (h : RdM w rb rd) {j : Int} (h0 : 0 ≤ j) (h1 : j < 20000) (x : Int) : ∃ w', (Instr.mapUpdate 79 (.map (some rb)) (.int .i64 j) (.int .i64 x)).run Try.prog w = .ok () w' ∧ RdM w' rb (updI rd j x) ∧ w.grownBy w' (some rb) := by
  obtain ⟨ru, h2, h3⟩ := h
  obtain ⟨w', e1, e2, e3⟩ := h2.store map79 (by unfold maxLen; omega) h0 (by omega) (.int .i64 x)
  refine ⟨w', e1, ⟨_, e2, fun i i0 i1 => ?_⟩, e3⟩
  unfold updV updI
  split
  · rfl
  · exact h3 i i0 i1
theorem RdM.kept {w w' : World} {rb : Nat} {rd : Int → Int} {row : Option Nat} (h : RdM w rb rd) (hg : w.grownBy w' row) (hne : some rb ≠ row) : RdM w' rb rd := by
  obtain ⟨ru, h2, h3⟩ := h
  exact ⟨ru, h2.kept hg hne, h3⟩
theorem RdM.same {w w' : World} {rb : Nat} {rd : Int → Int} (h : RdM w rb rd) (hb : w'.heap[rb]? = w.heap[rb]?) : RdM w' rb rd := by
  obtain ⟨ru, h2, h3⟩ := h
  exact ⟨ru, h2.same hb, h3⟩
theorem RdM.heap {w : World} {rb : Nat} {rd : Int → Int} (h : RdM w rb rd) : ∃ es c, w.heap[rb]? = some (.map es c) := by obtain ⟨ru, h2, _⟩ := h; exact h2.heap
structure Wk (w : World) (B0 g sb rb : Nat) (u : Int → Option StV) (rd : Int → Int) (SA : Option Addr) (sc : Nat) (stash : List R) (OA : Option Addr) (oc : Nat) (order : List StV) : Prop where
  box : w.heap[g]? = some (Obj.cells #[.map (some sb), .map (some rb), .slice SA stash.length sc, .slice OA order.length oc] 81 (0, 0))
  steps : VM w Try.prog 3 sb 20000 (fun j => (u j).map stVal)
  readers : RdM w rb rd
  ne : sb ≠ rb
  lg : B0 ≤ g ∧ B0 ≤ sb ∧ B0 ≤ rb
  st : StR w SA sc stash
  row : OwnS w B0 OA order.length oc order
  us : ∀ j s, u j = some s → s.blk = j ∧ StG w s
  os : ∀ s ∈ order, StG w s
/-- What lies beside the work stays. -/
def Bs (w w' : World) (g sb rb : Nat) (OA : Option Addr) : Prop := ∀ b, b < w.heap.size → b ≠ g → b ≠ sb → b ≠ rb → ¬ inA OA b → w'.heap[b]? = w.heap[b]?
section
variable {w w' : World} {B0 g sb rb : Nat} {u : Int → Option StV} {rd : Int → Int} {SA : Option Addr} {sc : Nat} {stash : List R} {OA : Option Addr} {oc : Nat} {order : List StV}
theorem Wk.lt (h : Wk w B0 g sb rb u rd SA sc stash OA oc order) : g < w.heap.size := (Array.getElem?_eq_some_iff.1 h.box).1
theorem Wk.base (h : Wk w B0 g sb rb u rd SA sc stash OA oc order) : B0 ≤ w.heap.size := by have := h.lt; have := h.lg.1; omega
theorem Wk.cells (h : Wk w B0 g sb rb u rd SA sc stash OA oc order) : w.cell? ⟨g, 0, none⟩ = some (.map (some sb)) ∧ w.cell? ⟨g, 1, none⟩ = some (.map (some rb)) ∧ w.cell? ⟨g, 2, none⟩ = some (.slice SA stash.length sc) ∧ w.cell? ⟨g, 3, none⟩ = some (.slice OA order.length oc) :=
  ⟨cell_of_row _ _ 0 _ 81 (0, 0) h.box, cell_of_row _ _ 1 _ 81 (0, 0) h.box, cell_of_row _ _ 2 _ 81 (0, 0) h.box, cell_of_row _ _ 3 _ 81 (0, 0) h.box⟩
/-- What leaves the old blocks leaves the work. -/
theorem Wk.up (h : Wk w B0 g sb rb u rd SA sc stash OA oc order) (hb : Below w.heap.size w w') : Wk w' B0 g sb rb u rd SA sc stash OA oc order := by
  have e : ∀ b, b < w.heap.size → w'.heap[b]? = w.heap[b]? := hb.block
  refine ⟨(e _ h.lt).trans h.box, h.steps.same (e _ h.steps.lt), ?_, h.ne, h.lg, h.st.same hb.size (fun b cs p hb => e _ (Array.getElem?_eq_some_iff.1 hb).1), h.row.same (fun b hb => e _ (h.row.ty hb).2.1), fun j s hs => ⟨(h.us j s hs).1, (h.us j s hs).2.same hb.size (fun b cs p hb => e _ (Array.getElem?_eq_some_iff.1 hb).1)⟩, fun s hs => (h.os s hs).same hb.size (fun b cs p hb => e _ (Array.getElem?_eq_some_iff.1 hb).1)⟩
  obtain ⟨es, c, hm⟩ := h.readers.heap
  exact h.readers.same (e _ (Array.getElem?_eq_some_iff.1 hm).1)
/-- A map of the work is written. -/
theorem Wk.turn (h : Wk w B0 g sb rb u rd SA sc stash OA oc order) {x : Nat} (hx : x = sb ∨ x = rb) (hg : w.grownBy w' (some x)) {u' : Int → Option StV} {rd' : Int → Int} (hs : VM w' Try.prog 3 sb 20000 (fun j => (u' j).map stVal)) (hr : RdM w' rb rd') (hu : ∀ j s, u' j = some s → s.blk = j ∧ StG w s) :
    Wk w' B0 g sb rb u' rd' SA sc stash OA oc order ∧ Below B0 w w' ∧ Bs w w' g sb rb OA := by
  have hxm : ∃ es c, w.heap[x]? = some (.map es c) := by
    rcases hx with rfl | rfl
    · exact h.steps.heap
    · exact h.readers.heap
  obtain ⟨es, c, hxm⟩ := hxm
  have e : ∀ (b : Nat) cs T (p : Nat × Nat), w.heap[b]? = some (Obj.cells cs T p) → w'.heap[b]? = w.heap[b]? := fun b cs T p hb => hg.block b (Array.getElem?_eq_some_iff.1 hb).1 (fun e => by
    injection e with e
    rw [e, hxm] at hb
    cases hb)
  refine ⟨⟨(e _ _ _ _ h.box).trans h.box, hs, hr, h.ne, h.lg, h.st.same hg.size (fun b cs p hb => e _ _ _ _ hb), h.row.same (fun b hb => by obtain ⟨_, _, cs, hc⟩ := h.row.ty hb; exact e _ _ _ _ hc), fun j s hs => ⟨(hu j s hs).1, (hu j s hs).2.same hg.size (fun b cs p hb => e _ _ _ _ hb)⟩, fun s hs => (h.os s hs).same hg.size (fun b cs p hb => e _ _ _ _ hb)⟩, ?_⟩
  refine ⟨(Below.refl B0 w).grown hg h.base (fun k hk => by
    injection hk with hk
    have := h.lg
    rcases hx with rfl | rfl <;> omega), fun b hb _ h2 h3 _ => hg.block b hb (fun e => by
    injection e with e
    rcases hx with rfl | rfl
    · exact h2 e
    · exact h3 e)⟩
theorem Wk.count (h : Wk w B0 g sb rb u rd SA sc stash OA oc order) {j : Int} (h0 : 0 ≤ j) (h1 : j < 20000) (x : Int) :
    ∃ w', (Instr.mapUpdate 79 (.map (some rb)) (.int .i64 j) (.int .i64 x)).run Try.prog w = .ok () w' ∧ Wk w' B0 g sb rb u (updI rd j x) SA sc stash OA oc order ∧ Below B0 w w' ∧ Bs w w' g sb rb OA ∧ w.grownBy w' (some rb) := by
  obtain ⟨w', e1, e2, e3⟩ := h.readers.store h0 h1 x
  obtain ⟨e4, e5, e6⟩ := h.turn (.inr rfl) e3 (h.steps.kept e3 (fun e => h.ne (by injection e))) e2 h.us
  exact ⟨w', e1, e4, e5, e6, e3⟩
theorem Wk.drop (h : Wk w B0 g sb rb u rd SA sc stash OA oc order) {j : Int} (hj : I64 j) (ty : TypeId) :
    ∃ w', (Builtin.delete_ #[78, 3] ty #[.map (some sb), .int .i64 j]).run Try.prog w = .ok (.tuple #[]) w' ∧ Wk w' B0 g sb rb (updS u j none) rd SA sc stash OA oc order ∧ Below B0 w w' ∧ Bs w w' g sb rb OA := by
  obtain ⟨w', e1, e2, e3⟩ := h.steps.drop map78 hj ty
  have e2' : VM w' Try.prog 3 sb 20000 (fun i => (updS u j none i).map stVal) := by rw [updS_map]; exact e2
  obtain ⟨e4, e5, e6⟩ := h.turn (.inl rfl) e3 e2' (h.readers.kept e3 (fun e => h.ne (Option.some.inj e).symm)) (fun i s hs => by
    unfold updS at hs
    split at hs
    · cases hs
    · exact h.us i s hs)
  exact ⟨w', e1, e4, e5, e6⟩
theorem Wk.put (h : Wk w B0 g sb rb u rd SA sc stash OA oc order) {s : StV} (h0 : 0 ≤ s.blk) (h1 : s.blk < 20000) (hs : StG w s) :
    ∃ w', (Instr.mapUpdate 78 (.map (some sb)) (.int .i64 s.blk) (stVal s)).run Try.prog w = .ok () w' ∧ Wk w' B0 g sb rb (updS u s.blk (some s)) rd SA sc stash OA oc order ∧ Below B0 w w' ∧ Bs w w' g sb rb OA := by
  obtain ⟨w', e1, e2, e3⟩ := h.steps.store map78 (by unfold maxLen; omega) h0 h1 (stVal s)
  have e2' : VM w' Try.prog 3 sb 20000 (fun i => (updS u s.blk (some s) i).map stVal) := by rw [updS_map]; exact e2
  obtain ⟨e4, e5, e6⟩ := h.turn (.inl rfl) e3 e2' (h.readers.kept e3 (fun e => h.ne (Option.some.inj e).symm)) (fun i t ht => by
    unfold updS at ht
    split at ht
    · rename_i e
      injection ht with ht
      subst ht
      exact ⟨e.symm, hs⟩
    · exact h.us i t ht)
  exact ⟨w', e1, e4, e5, e6⟩
theorem Wk.look (h : Wk w B0 g sb rb u rd SA sc stash OA oc order) {j : Int} (hj : I64 j) : (Instr.lookup 78 (.map (some sb)) (.int .i64 j) true).run Try.prog w = .ok (.tuple #[((u j).map stVal).getD (.agg #[.int .i64 0, .slice none 0 0]), .bool (u j).isSome]) w := by
  rw [h.steps.look map78 hj]
  cases u j <;> rfl
/-- A cell of the work's box is written. -/
theorem Wk.setStash (h : Wk w B0 g sb rb u rd SA sc stash OA oc order) {SA' : Option Addr} {sc' : Nat} {stash' : List R} (hs : StR w SA' sc' stash') :
    Wk (w.setCell ⟨g, 2, none⟩ (.slice SA' stash'.length sc')) B0 g sb rb u rd SA' sc' stash' OA oc order ∧ Below B0 w (w.setCell ⟨g, 2, none⟩ (.slice SA' stash'.length sc')) ∧ Bs w (w.setCell ⟨g, 2, none⟩ (.slice SA' stash'.length sc')) g sb rb OA := by
  have e0 := heap_setCell_same w g 2 _ 81 (.slice SA' stash'.length sc') h.box
  have e : ∀ (b : Nat) o, w.heap[b]? = some o → (∀ cs (p : Nat × Nat), o ≠ Obj.cells cs 81 p) → (w.setCell ⟨g, 2, none⟩ (.slice SA' stash'.length sc')).heap[b]? = w.heap[b]? := fun b o hb hne => heap_setCell_other _ _ _ _ (fun e => by
    simp only at e
    rw [e, h.box] at hb
    injection hb with hb
    exact hne _ _ hb.symm)
  have hsz : w.heap.size ≤ (w.setCell ⟨g, 2, none⟩ (.slice SA' stash'.length sc')).heap.size := by simp
  have e48 : ∀ (b : Nat) cs (p : Nat × Nat), w.heap[b]? = some (Obj.cells cs 48 p) → (w.setCell ⟨g, 2, none⟩ (.slice SA' stash'.length sc')).heap[b]? = w.heap[b]? := fun b cs p hb => e b _ hb (fun cs' p' e => by injection e with _ e; cases e)
  have e67 : ∀ (b : Nat) cs (p : Nat × Nat), w.heap[b]? = some (Obj.cells cs 67 p) → (w.setCell ⟨g, 2, none⟩ (.slice SA' stash'.length sc')).heap[b]? = w.heap[b]? := fun b cs p hb => e b _ hb (fun cs' p' e => by injection e with _ e; cases e)
  obtain ⟨es1, c1, m1⟩ := h.steps.heap
  obtain ⟨es2, c2, m2⟩ := h.readers.heap
  refine ⟨⟨by rw [e0]; simp, h.steps.same (e _ _ m1 (fun _ _ e => by cases e)), h.readers.same (e _ _ m2 (fun _ _ e => by cases e)), h.ne, h.lg, hs.same hsz e67, h.row.same (fun b hb => by obtain ⟨_, _, cs, hc⟩ := h.row.ty hb; exact e _ _ hc (fun cs' p' e => by injection e with _ e; cases e)), fun j s hs => ⟨(h.us j s hs).1, (h.us j s hs).2.same hsz e48⟩, fun s hs => (h.os s hs).same hsz e48⟩, ?_⟩
  exact ⟨(Below.refl B0 w).setCell (show B0 ≤ g from h.lg.1) _, fun b _ h1 _ _ _ => heap_setCell_other _ _ _ _ h1⟩
/-- A step more is ordered. -/
theorem Wk.push (h : Wk w B0 g sb rb u rd SA sc stash OA oc order) {W0 w5 : World} (hW : Below w.heap.size w W0) {s : StV} {g5 k5 z : Nat} (hs : StG w s) (hown : w5.ownsRow B0 70 2 (.slice (some ⟨g5, 0, none⟩) (order.length + 1) k5) (order.length + 1) (stCells order ++ stCells [s])) (hg : W0.grownBy w5 (Value.slice OA order.length oc).ownBlock)
    (_hat : (Value.slice OA order.length oc).ownBlock = some g5 ∨ g5 = z) (_hz : w.heap.size ≤ z) :
    Wk (w5.setCell ⟨g, 3, none⟩ (.slice (some ⟨g5, 0, none⟩) (order.length + 1) k5)) B0 g sb rb u rd SA sc stash (some ⟨g5, 0, none⟩) k5 (order ++ [s]) ∧ Below B0 w (w5.setCell ⟨g, 3, none⟩ (.slice (some ⟨g5, 0, none⟩) (order.length + 1) k5)) ∧ Bs w (w5.setCell ⟨g, 3, none⟩ (.slice (some ⟨g5, 0, none⟩) (order.length + 1) k5)) g sb rb OA := by
  have hlen : (order ++ [s]).length = order.length + 1 := by simp
  -- blocks that are no row of steps stay
  have hrow : ∀ b, (Value.slice OA order.length oc).ownBlock = some b → B0 ≤ b ∧ ∃ cs, w.heap[b]? = some (Obj.cells cs 70 (0, 0)) := fun b hb => ⟨(h.row.ty (own_in.1 hb)).1, (h.row.ty (own_in.1 hb)).2.2⟩
  have e1 : ∀ (b : Nat) o, w.heap[b]? = some o → (∀ cs (p : Nat × Nat), o ≠ Obj.cells cs 70 p) → w5.heap[b]? = w.heap[b]? := fun b o hb hne => by
    have hlt := (Array.getElem?_eq_some_iff.1 hb).1
    have := hW.size
    rw [hg.block b (by omega) (fun e => by
      obtain ⟨_, cs, hc⟩ := hrow b e.symm
      rw [hc] at hb
      injection hb with hb
      exact hne _ _ hb.symm), hW.block b hlt]
  have box5 : w5.heap[g]? = some (Obj.cells #[.map (some sb), .map (some rb), .slice SA stash.length sc, .slice OA order.length oc] 81 (0, 0)) := (e1 g _ h.box (fun cs p e => by injection e with _ e; cases e)).trans h.box
  have e0 := heap_setCell_same w5 g 3 _ 81 (.slice (some ⟨g5, 0, none⟩) (order.length + 1) k5) box5
  have hg5 : g5 ≠ g := fun e => by
    rcases hown.2 with ⟨hv, _⟩ | ⟨g6, cap', cur, hv, _, hg6, _⟩
    · cases hv
    · injection hv with ha _ _
      injection ha with ha
      injection ha with ha _ _
      rw [← ha, e, box5] at hg6
      injection hg6 with hg6
      injection hg6 with _ hg6
      cases hg6
  have e : ∀ (b : Nat) o, w.heap[b]? = some o → (∀ cs (p : Nat × Nat), o ≠ Obj.cells cs 70 p) → (∀ cs (p : Nat × Nat), o ≠ Obj.cells cs 81 p) → (w5.setCell ⟨g, 3, none⟩ (.slice (some ⟨g5, 0, none⟩) (order.length + 1) k5)).heap[b]? = w.heap[b]? := fun b o hb hne hne2 => by
    rw [heap_setCell_other _ _ _ _ (fun e => by
      simp only at e
      rw [e, h.box] at hb
      injection hb with hb
      exact hne2 _ _ hb.symm)]
    exact e1 b o hb hne
  have hsz : w.heap.size ≤ (w5.setCell ⟨g, 3, none⟩ (.slice (some ⟨g5, 0, none⟩) (order.length + 1) k5)).heap.size := by have := hW.size; have := hg.size; simp; omega
  have e48 : ∀ (b : Nat) cs (p : Nat × Nat), w.heap[b]? = some (Obj.cells cs 48 p) → (w5.setCell ⟨g, 3, none⟩ (.slice (some ⟨g5, 0, none⟩) (order.length + 1) k5)).heap[b]? = w.heap[b]? := fun b cs p hb => e b _ hb (fun cs' p' e => by injection e with _ e; cases e) (fun cs' p' e => by injection e with _ e; cases e)
  have e67 : ∀ (b : Nat) cs (p : Nat × Nat), w.heap[b]? = some (Obj.cells cs 67 p) → (w5.setCell ⟨g, 3, none⟩ (.slice (some ⟨g5, 0, none⟩) (order.length + 1) k5)).heap[b]? = w.heap[b]? := fun b cs p hb => e b _ hb (fun cs' p' e => by injection e with _ e; cases e) (fun cs' p' e => by injection e with _ e; cases e)
  obtain ⟨es1, c1, m1⟩ := h.steps.heap
  obtain ⟨es2, c2, m2⟩ := h.readers.heap
  refine ⟨⟨by rw [e0, hlen]; simp, h.steps.same (e _ _ m1 (fun _ _ e => by cases e) (fun _ _ e => by cases e)), h.readers.same (e _ _ m2 (fun _ _ e => by cases e) (fun _ _ e => by cases e)), h.ne, h.lg, h.st.same hsz e67, ⟨rfl, ?_⟩, fun j s hs => ⟨(h.us j s hs).1, (h.us j s hs).2.same hsz e48⟩, fun t ht => ?_⟩, ?_⟩
  · rw [hlen, stCells_append]
    refine row_same hown (fun b hb => ?_)
    have := inA_some.1 hb
    simp only at this
    subst this
    exact heap_setCell_other _ _ _ _ hg5
  · rcases List.mem_append.1 ht with ht | ht
    · exact (h.os t ht).same hsz e48
    · simp at ht
      subst ht
      exact hs.same hsz e48
  · have hb1 : Below B0 w w5 := (hW.mono h.base).grown hg (by have := hW.size; have := h.base; omega) (fun k hk => (hrow k hk).1)
    refine ⟨hb1.setCell (show B0 ≤ g from h.lg.1) _, fun b hb h1 _ _ h4 => ?_⟩
    rw [heap_setCell_other _ _ _ _ h1, hg.block b (by have := hW.size; omega) (fun e => h4 (own_in.1 e.symm)), hW.block b hb]
/-- What is of no matter to the work. -/
def OkO (o : Obj) : Prop := (∃ cs p T, o = Obj.cells cs T p ∧ (T = 81 ∨ T = 48 ∨ T = 67 ∨ T = 70)) ∨ ∃ es c, o = Obj.map es c
theorem Wk.other (h : Wk w B0 g sb rb u rd SA sc stash OA oc order) (hsz : w.heap.size ≤ w'.heap.size) (he : ∀ (b : Nat) o, w.heap[b]? = some o → OkO o → w'.heap[b]? = w.heap[b]?) : Wk w' B0 g sb rb u rd SA sc stash OA oc order := by
  have e48 : ∀ (b : Nat) cs (p : Nat × Nat), w.heap[b]? = some (Obj.cells cs 48 p) → w'.heap[b]? = w.heap[b]? := fun b cs p hb => he b _ hb (.inl ⟨cs, p, 48, rfl, by simp⟩)
  obtain ⟨es1, c1, m1⟩ := h.steps.heap
  obtain ⟨es2, c2, m2⟩ := h.readers.heap
  exact ⟨(he _ _ h.box (.inl ⟨_, _, 81, rfl, by simp⟩)).trans h.box, h.steps.same (he _ _ m1 (.inr ⟨_, _, rfl⟩)), h.readers.same (he _ _ m2 (.inr ⟨_, _, rfl⟩)), h.ne, h.lg, h.st.same hsz (fun b cs p hb => he b _ hb (.inl ⟨cs, p, 67, rfl, by simp⟩)), h.row.same (fun b hb => by obtain ⟨_, _, cs, hc⟩ := h.row.ty hb; exact he _ _ hc (.inl ⟨_, _, 70, rfl, by simp⟩)), fun j s hs => ⟨(h.us j s hs).1, (h.us j s hs).2.same hsz e48⟩, fun s hs => (h.os s hs).same hsz e48⟩
/-- A step's parts are others. -/
theorem Wk.part (h : Wk w B0 g sb rb u rd SA sc stash OA oc order) {i ob : Nat} {s s' : StV} (hs : order[i]? = some s) (hs' : StG w s') (hb : s'.blk = s.blk) (hOA : OA = some ⟨ob, 0, none⟩) :
    Wk (w.setCell ⟨ob, i * 2 + 1, none⟩ (.slice s'.A s'.parts.length s'.c)) B0 g sb rb u rd SA sc stash OA oc (order.set i s') ∧ Below B0 w (w.setCell ⟨ob, i * 2 + 1, none⟩ (.slice s'.A s'.parts.length s'.c)) := by
  subst hOA
  obtain ⟨hbase, hlt, cs, hcs⟩ := h.row.ty (inA_some.2 rfl)
  simp only at hbase hlt hcs
  have e : ∀ (b : Nat) o, w.heap[b]? = some o → (∀ cs (p : Nat × Nat), o ≠ Obj.cells cs 70 p) → (w.setCell ⟨ob, i * 2 + 1, none⟩ (.slice s'.A s'.parts.length s'.c)).heap[b]? = w.heap[b]? := fun b o hb' hne => heap_setCell_other _ _ _ _ (fun e => by
    simp only at e
    rw [e, hcs] at hb'
    injection hb' with hb'
    exact hne _ _ hb'.symm)
  have hsz : w.heap.size ≤ (w.setCell ⟨ob, i * 2 + 1, none⟩ (.slice s'.A s'.parts.length s'.c)).heap.size := by simp
  have e48 : ∀ (b : Nat) cs (p : Nat × Nat), w.heap[b]? = some (Obj.cells cs 48 p) → (w.setCell ⟨ob, i * 2 + 1, none⟩ (.slice s'.A s'.parts.length s'.c)).heap[b]? = w.heap[b]? := fun b cs p hb => e b _ hb (fun cs' p' e => by injection e with _ e; cases e)
  obtain ⟨es1, c1, m1⟩ := h.steps.heap
  obtain ⟨es2, c2, m2⟩ := h.readers.heap
  refine ⟨⟨by rw [List.length_set]; exact (e _ _ h.box (fun cs' p' e => by injection e with _ e; cases e)).trans h.box, h.steps.same (e _ _ m1 (fun _ _ e => by cases e)), h.readers.same (e _ _ m2 (fun _ _ e => by cases e)), h.ne, h.lg, h.st.same hsz (fun b cs p hb => e b _ hb (fun cs' p' e => by injection e with _ e; cases e)), ⟨rfl, ?_⟩, fun j s hs => ⟨(h.us j s hs).1, (h.us j s hs).2.same hsz e48⟩, fun t ht => ?_⟩, ?_⟩
  · rw [List.length_set, stCells_set order i s s' hs hb]
    exact (h.row.2.stored (i * 2 + 1) _).1
  · rcases List.mem_or_eq_of_mem_set ht with ht | ht
    · exact (h.os t ht).same hsz e48
    · subst ht; exact hs'.same hsz e48
  · exact (Below.refl B0 w).setCell (show B0 ≤ ob from hbase) _
/-- A row of numbers of the call's own is appended to. -/
theorem Wk.beside (h : Wk w B0 g sb rb u rd SA sc stash OA oc order) {W0 : World} (hW : Below w.heap.size w W0) {row : Option Nat} (hg : W0.grownBy w' row) (hrow : ∀ b, row = some b → B0 ≤ b ∧ ∃ cs, w.heap[b]? = some (.cells cs 3 (0, 0))) : Wk w' B0 g sb rb u rd SA sc stash OA oc order ∧ Below B0 w w' := by
  have e : ∀ (b : Nat) o, w.heap[b]? = some o → (∀ cs (p : Nat × Nat), o ≠ Obj.cells cs 3 p) → w'.heap[b]? = w.heap[b]? := fun b o hb hne => by
    have hlt := (Array.getElem?_eq_some_iff.1 hb).1
    have := hW.size
    rw [hg.block b (by omega) (fun e => by
      obtain ⟨_, cs, hc⟩ := hrow b e.symm
      rw [hc] at hb
      injection hb with hb
      exact hne _ _ hb.symm), hW.block b hlt]
  have hsz : w.heap.size ≤ w'.heap.size := Nat.le_trans hW.size hg.size
  obtain ⟨es1, c1, m1⟩ := h.steps.heap
  obtain ⟨es2, c2, m2⟩ := h.readers.heap
  have e48 : ∀ (b : Nat) cs (p : Nat × Nat), w.heap[b]? = some (Obj.cells cs 48 p) → w'.heap[b]? = w.heap[b]? := fun b cs p hb => e b _ hb (fun cs' p' e => by injection e with _ e; cases e)
  refine ⟨⟨(e _ _ h.box (fun cs' p' e => by injection e with _ e; cases e)).trans h.box, h.steps.same (e _ _ m1 (fun _ _ e => by cases e)), h.readers.same (e _ _ m2 (fun _ _ e => by cases e)), h.ne, h.lg, h.st.same hsz (fun b cs p hb => e b _ hb (fun cs' p' e => by injection e with _ e; cases e)), h.row.same (fun b hb => by obtain ⟨_, _, cs, hc⟩ := h.row.ty hb; exact e _ _ hc (fun cs' p' e => by injection e with _ e; cases e)), fun j s hs => ⟨(h.us j s hs).1, (h.us j s hs).2.same hsz e48⟩, fun s hs => (h.os s hs).same hsz e48⟩, ?_⟩
  exact (hW.mono h.base).grown hg (by have := hW.size; have := h.base; omega) (fun k hk => (hrow k hk).1)
/-- A row of numbers of the call's own stays. -/
theorem Wk.rowI (h : Wk w B0 g sb rb u rd SA sc stash OA oc order) (hb : Bs w w' g sb rb OA) {base n c : Nat} {A : Option Addr} {l : List Int} (hr : OwnI w base A n c l) : OwnI w' base A n c l := by
  refine ⟨hr.1, row_same hr.2 fun b hb' => ?_⟩
  rcases hr.2.2 with ⟨hv, _⟩ | ⟨g', cap', cur, hv, hbg, hg, _⟩
  · injection hv with ha _ _
    subst ha
    exact absurd hb' inA_none
  · injection hv with ha _ _
    subst ha
    have := inA_some.1 hb'
    simp only at this
    subst this
    obtain ⟨es1, c1, m1⟩ := h.steps.heap
    obtain ⟨es2, c2, m2⟩ := h.readers.heap
    refine hb g' (Array.getElem?_eq_some_iff.1 hg).1 (fun e => ?_) (fun e => ?_) (fun e => ?_) (fun e => ?_)
    · have h2 := h.box; rw [← e, hg] at h2; injection h2 with h2; injection h2 with _ h2; cases h2
    · rw [← e, hg] at m1; cases m1
    · rw [← e, hg] at m2; cases m2
    · obtain ⟨_, _, cs, hc⟩ := h.row.ty e; rw [hg] at hc; injection hc with hc; injection hc with _ hc; cases hc
/-- A box of a step that is no row of the work stays. -/
theorem Wk.boxS (h : Wk w B0 g sb rb u rd SA sc stash OA oc order) (hb : Bs w w' g sb rb OA) {vb : Nat} {cs : Array Value} {T : TypeId} (hx : w.heap[vb]? = some (.cells cs T (0, 0))) (hT : T ≠ 81) (hne : ¬ inA OA vb) : w'.heap[vb]? = some (.cells cs T (0, 0)) := by
  obtain ⟨es1, c1, m1⟩ := h.steps.heap
  obtain ⟨es2, c2, m2⟩ := h.readers.heap
  refine (hb vb (Array.getElem?_eq_some_iff.1 hx).1 (fun e => ?_) (fun e => ?_) (fun e => ?_) hne).trans hx
  · have h2 := h.box; rw [← e, hx] at h2; injection h2 with h2; injection h2 with _ h2; exact hT h2
  · rw [← e, hx] at m1; cases m1
  · rw [← e, hx] at m2; cases m2
end
theorem OwnI.ty {w : World} {base n c : Nat} {A : Option Addr} {l : List Int} (h : OwnI w base A n c l) {b : Nat} (hb : inA A b) : base ≤ b ∧ ∃ cs, w.heap[b]? = some (.cells cs 3 (0, 0)) := by
  rcases h.2.2 with ⟨hv, _⟩ | ⟨g, cap', cur, hv, hbg, hg, _⟩
  · injection hv with ha _ _
    subst ha
    exact absurd hb inA_none
  · injection hv with ha _ _
    subst ha
    have := inA_some.1 hb
    subst this
    exact ⟨hbg, cur, hg⟩
theorem OwnI.same {w w' : World} {base n c : Nat} {A : Option Addr} {l : List Int} (h : OwnI w base A n c l) (hA : ∀ b, inA A b → w'.heap[b]? = w.heap[b]?) : OwnI w' base A n c l := ⟨h.1, row_same h.2 hA⟩
theorem OwnI.one (w : World) (b : Int) (base : Nat) (hb : base ≤ w.heap.size) (g : Nat) (hg : g = w.heap.size) : OwnI (w.alloc (.cells #[.int .i64 b] 3)) base (some ⟨g, 0, Option.none⟩) 1 1 [b] := by
  subst hg
  exact ⟨rfl, rfl, .inr ⟨w.heap.size, 1, #[.int .i64 b], rfl, hb, heap_alloc_new w _, Nat.le_refl _, by unfold maxLen; omega, rfl, rfl⟩⟩
theorem OwnI.shrink {w : World} {base : Nat} {A : Option Addr} {n c : Nat} {l : List Int} (h : OwnI w base A n c l) (k : Nat) (hk : k ≤ n) : OwnI w base A k c (l.take k) := by
  obtain ⟨hl, h1, h2⟩ := h
  refine ⟨by simp [hl]; omega, by simp [icells, hl]; omega, ?_⟩
  rcases h2 with ⟨hv, hn⟩ | ⟨g, cap, cur, hv, hb, hg, r1, r2, r3, r4⟩
  · injection hv with ha hn' hc
    subst ha; subst hc
    exact .inl ⟨by rw [show k = 0 by omega], by omega⟩
  · injection hv with ha hn' hc
    subst ha; subst hc
    refine .inr ⟨g, _, cur, rfl, hb, hg, by omega, r2, r3, ?_⟩
    have : icells (l.take k) = (icells l).take k := by simp [icells]
    rw [this, ← r4, List.take_take]
    congr 1
    omega
end Go.Proofs.Yteceephenfmdoaa
