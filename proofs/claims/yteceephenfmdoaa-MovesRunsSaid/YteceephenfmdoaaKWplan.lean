/-
  plan: the steps in waves, those of their parts that are stashed taken from there.
-/
import Derived.Test.YteceephenfmdoaaKTakes
namespace Go.Proofs.Yteceephenfmdoaa
open Go.RowKit
/-- A list in pieces of m. -/
def chunkF {α : Type} (m : Nat) : Nat → List α → List (List α)
  | 0, _ => []
  | f + 1, l => if l.isEmpty then [] else l.take m :: chunkF m f (l.drop m)
def chunks {α : Type} (m : Nat) (l : List α) : List (List α) := chunkF m l.length l
theorem chunkF_more {α : Type} (m : Nat) (hm : 1 ≤ m) : ∀ (f : Nat) (l : List α), l.length ≤ f → chunkF m f l = chunkF m l.length l := by
  intro f
  induction f using Nat.strongRecOn with
  | ind f ih =>
    intro l hl
    cases l with
    | nil => cases f <;> simp [chunkF]
    | cons a l =>
      cases f with
      | zero => simp at hl
      | succ f =>
        simp only [chunkF, List.length_cons]
        have h1 : ((a :: l).drop m).length ≤ l.length := by simp; omega
        have e1 := ih f (by omega) ((a :: l).drop m) (by simp at hl; omega)
        have e2 := ih l.length (by simp at hl; omega) ((a :: l).drop m) h1
        rw [e1, e2]
theorem chunks_nil {α : Type} (m : Nat) : chunks m ([] : List α) = [] := rfl
theorem chunks_next {α : Type} {m : Nat} (hm : 1 ≤ m) {l : List α} (h : l ≠ []) : chunks m l = l.take m :: chunks m (l.drop m) := by
  cases l with
  | nil => exact absurd rfl h
  | cons a l =>
    unfold chunks
    simp only [List.length_cons, chunkF]
    rw [if_neg (by simp)]
    congr 1
    exact chunkF_more m hm l.length _ (by simp; omega)
theorem chunks_map {α β : Type} (f : α → β) {m : Nat} (hm : 1 ≤ m) : ∀ (n : Nat) (l : List α), l.length ≤ n → (chunks m l).map (List.map f) = chunks m (l.map f) := by
  intro n
  induction n with
  | zero => intro l h; have : l = [] := List.length_eq_zero_iff.1 (by omega); subst this; rfl
  | succ n ih =>
    intro l h
    by_cases hl : l = []
    · subst hl; rfl
    · have e2 : chunks m (l.map f) = (l.map f).take m :: chunks m ((l.map f).drop m) := chunks_next hm (by simpa using hl)
      rw [chunks_next hm hl, e2, List.map_cons, ih _ (by
        have : 0 < l.length := List.length_pos_iff.2 hl
        simp; omega), List.map_take, List.map_drop]
/-- A step with its parts moved. -/
noncomputable def movedS (stash : List R) (s : Stp) : Stp := (s.1, movedL s.2 stash)
/-! ### The row of waves -/
def wvCells (l : List WvV) : List Value := l.map fun v => .slice v.A v.steps.length v.c
theorem wvCells_append (l m : List WvV) : wvCells (l ++ m) = wvCells l ++ wvCells m := by simp [wvCells]
def OwnW (w : World) (base : Nat) (A : Option Addr) (n cap : Nat) (l : List WvV) : Prop := l.length = n ∧ w.ownsRow base 43 1 (.slice A n cap) n (wvCells l)
theorem OwnW.nil (w : World) (base : Nat) : OwnW w base none 0 0 [] := ⟨rfl, World.ownsRow_nil _ _ _ _⟩
theorem OwnW.cap {w : World} {base n c : Nat} {A : Option Addr} {l : List WvV} (h : OwnW w base A n c l) : n ≤ c ∧ c ≤ maxLen := by
  obtain ⟨hl, h1, h2⟩ := h
  rcases h2 with ⟨hv, hn'⟩ | ⟨g, cap', cur, hv, hbg, hg, hnc, hcm, _⟩
  · injection hv with _ hn hc
    subst hc; omega
  · injection hv with ha _ hc
    subst hc
    exact ⟨hnc, hcm⟩
theorem OwnW.ty {w : World} {base n c : Nat} {A : Option Addr} {l : List WvV} (h : OwnW w base A n c l) {b : Nat} (hb : inA A b) : base ≤ b ∧ b < w.heap.size ∧ ∃ cs, w.heap[b]? = some (.cells cs 43 (0, 0)) := by
  rcases h.2.2 with ⟨hv, _⟩ | ⟨g, cap', cur, hv, hbg, hg, _⟩
  · injection hv with ha _ _
    subst ha
    exact absurd hb inA_none
  · injection hv with ha _ _
    subst ha
    have := inA_some.1 hb
    subst this
    exact ⟨hbg, (Array.getElem?_eq_some_iff.1 hg).1, cur, hg⟩
theorem OwnW.same {w w' : World} {base n c : Nat} {A : Option Addr} {l : List WvV} (h : OwnW w base A n c l) (hA : ∀ b, inA A b → w'.heap[b]? = w.heap[b]?) : OwnW w' base A n c l := ⟨h.1, row_same h.2 hA⟩
theorem OwnW.cellAt {w : World} {base n c : Nat} {A : Option Addr} {l : List WvV} (h : OwnW w base A n c l) {k : Nat} {v : WvV} (hs : l[k]? = some v) : ∃ b, A = some ⟨b, 0, none⟩ ∧ b < w.heap.size ∧ w.cell? ⟨b, k, none⟩ = some (.slice v.A v.steps.length v.c) := by
  obtain ⟨hl, h⟩ := h
  have hk : k < l.length := (List.getElem?_eq_some_iff.1 hs).1
  have h2 := h.2
  rcases h2 with ⟨hv, hn⟩ | ⟨g, cap', cur, hv, hbg, hg, hr⟩
  · omega
  · injection hv with ha hn hcc
    subst ha; subst hcc
    have hlt : g < w.heap.size := (Array.getElem?_eq_some_iff.1 hg).1
    refine ⟨g, rfl, hlt, ?_⟩
    rw [h.cellAt _ (by omega)]
    simp [wvCells, hs]
theorem info43 : (Try.prog.info? 43).map (fun i => (i.zero, i.size, i.bytes)) = some (some (.slice none 0 0), 1, 24) := by kernel_rfl
/-- The order while its parts are moved: the first so many are. -/
structure MvO (stash : List R) (order ord : List StV) (i : Nat) : Prop where
  len : ord.length = order.length
  done : ∀ (j : Nat) s, j < i → order[j]? = some s → ∃ s', ord[j]? = some s' ∧ s'.blk = s.blk ∧ s'.parts = movedL s.parts stash
  rest : ∀ j : Nat, i ≤ j → ord[j]? = order[j]?
theorem MvO.next {stash : List R} {order ord : List StV} {i : Nat} (h : MvO stash order ord i) {s s' : StV} (hs : order[i]? = some s) (hb : s'.blk = s.blk) (hp : s'.parts = movedL s.parts stash) : MvO stash order (ord.set i s') (i + 1) := by
  have hi := (List.getElem?_eq_some_iff.1 hs).1
  refine ⟨by rw [List.length_set, h.len], fun j t hj ht => ?_, fun j hj => ?_⟩
  · by_cases hji : j = i
    · subst hji
      rw [hs] at ht
      injection ht with ht
      subst ht
      exact ⟨s', by rw [List.getElem?_set_self (by rw [h.len]; exact hi)], hb, hp⟩
    · obtain ⟨t', h1, h2⟩ := h.done j t (by omega) ht
      exact ⟨t', by rw [List.getElem?_set_ne (by omega)]; exact h1, h2⟩
  · rw [List.getElem?_set_ne (by omega)]
    exact h.rest j (by omega)
theorem MvO.all {stash : List R} {order ord : List StV} (h : MvO stash order ord order.length) : ord.map StV.st = (order.map StV.st).map (movedS stash) := by
  apply List.ext_getElem?
  intro j
  by_cases hj : j < order.length
  · obtain ⟨s, hs⟩ := Sc.get_some order j hj
    obtain ⟨s', h1, h2, h3⟩ := h.done j s hj hs
    simp only [List.getElem?_map, h1, hs, Option.map_some, StV.st, movedS, h2, h3]
  · simp only [List.getElem?_map, List.getElem?_eq_none (show order.length ≤ j by omega), List.getElem?_eq_none (show ord.length ≤ j by rw [h.len]; omega), Option.map_none]
/-- All blocks stay, but plans. -/
def Keep32 (w w' : World) : Prop := w.heap.size ≤ w'.heap.size ∧ ∀ (b : Nat) (o : Obj), w.heap[b]? = some o → (∀ (cs : Array Value) (p : Nat × Nat), o ≠ Obj.cells cs 32 p) → w'.heap[b]? = some o
/-- What a plan that was made says. -/
def PlanR (w : World) (B0 : Nat) (size : Int) (stash : List R) (most : Nat) (order : List Stp) (e : Ending) (w' : World) : Prop :=
  ∃ p : PlV, e = .returned (.agg p.cells) ∧ (∀ w'', Keep32 w' w'' → PlOk w'' w''.heap.size p) ∧ p.pln = ⟨size, stash, chunks most (order.map (movedS stash))⟩ ∧ Below B0 w w'
/-- Waves that are pieces of a row of steps. -/
def Pcs (OA : Option Addr) (ord : List StV) (W : List WvV) : Prop := ∀ v ∈ W, ∃ ob q m : Nat, OA = some ⟨ob, 0, none⟩ ∧ q + m ≤ ord.length ∧ v = ⟨some ⟨ob, q * 2, none⟩, m, (ord.drop q).take m⟩
theorem wvs_ok {w : World} {B0 g sb rb : Nat} {u : Int → Option StV} {rd : Int → Int} {SA : Option Addr} {sc : Nat} {stash : List R} {OA : Option Addr} {oc : Nat} {ord : List StV} (h : Wk w B0 g sb rb u rd SA sc stash OA oc ord) (hol : ord.length ≤ 20000) {base n c : Nat} {WA : Option Addr} {W : List WvV} (hw : OwnW w base WA n c W) (hP : Pcs OA ord W) : RdWv w w.heap.size WA W := by
  intro k v hv
  obtain ⟨b, rfl, hb, hc⟩ := hw.cellAt hv
  obtain ⟨ob, q, m, rfl, hqm, rfl⟩ := hP v (List.mem_of_getElem? hv)
  refine ⟨b, 0, rfl, hb, by simpa using hc, ?_, ?_, fun h => by cases h⟩
  · intro j s hs
    have hjm : j < m := by have := (List.getElem?_eq_some_iff.1 hs).1; simp at this; omega
    have hs2 : ord[q + j]? = some s := by
      rw [List.getElem?_take_of_lt hjm, List.getElem?_drop] at hs
      exact hs
    obtain ⟨b2, e, hb2, d0, d1⟩ := h.row.cellAt hs2
    injection e with e
    injection e with e1 _ _
    subst e1
    refine ⟨ob, q * 2, rfl, hb2, by rw [← d0]; congr 2; omega, by rw [← d1]; congr 2; omega, (h.os s (List.mem_of_getElem? hs2)).ok⟩
  · simp only [List.length_take, List.length_drop]
    omega
/-- A wave more. -/
theorem pl_push {w W0 w5 : World} {B0 g sb rb : Nat} {u : Int → Option StV} {rd : Int → Int} {SA : Option Addr} {sc : Nat} {stash : List R} {OA : Option Addr} {oc : Nat} {ord : List StV} (h : Wk w B0 g sb rb u rd SA sc stash OA oc ord) {wn wc pb : Nat} {WA : Option Addr} {W : List WvV} (hw : OwnW w B0 WA wn wc W) {x0 x1 : Value} {cs : Array Value} (hB : B0 ≤ pb)
    (hp0 : w.heap[pb]? = some (.cells cs 32 (0, 0))) (hp1 : w.heap[pb + 1]? = some (.cells #[x0, x1, .slice WA wn wc] 32 (0, 0))) (hW : Below w.heap.size w W0) {v : WvV} {g5 k5 z : Nat} (hown : w5.ownsRow B0 43 1 (.slice (some ⟨g5, 0, none⟩) (wn + 1) k5) (wn + 1) (wvCells W ++ wvCells [v])) (hg : W0.grownBy w5 (Value.slice WA wn wc).ownBlock)
    (_hat : (Value.slice WA wn wc).ownBlock = some g5 ∨ g5 = z) (_hz : w.heap.size ≤ z) :
    Wk (w5.setCell ⟨pb + 1, 2, none⟩ (.slice (some ⟨g5, 0, none⟩) (wn + 1) k5)) B0 g sb rb u rd SA sc stash OA oc ord ∧ OwnW (w5.setCell ⟨pb + 1, 2, none⟩ (.slice (some ⟨g5, 0, none⟩) (wn + 1) k5)) B0 (some ⟨g5, 0, none⟩) (wn + 1) k5 (W ++ [v]) ∧
      (w5.setCell ⟨pb + 1, 2, none⟩ (.slice (some ⟨g5, 0, none⟩) (wn + 1) k5)).heap[pb]? = some (.cells cs 32 (0, 0)) ∧ (w5.setCell ⟨pb + 1, 2, none⟩ (.slice (some ⟨g5, 0, none⟩) (wn + 1) k5)).heap[pb + 1]? = some (.cells #[x0, x1, .slice (some ⟨g5, 0, none⟩) (wn + 1) k5] 32 (0, 0)) ∧
      Below B0 w (w5.setCell ⟨pb + 1, 2, none⟩ (.slice (some ⟨g5, 0, none⟩) (wn + 1) k5)) := by
  have hrow : ∀ b, (Value.slice WA wn wc).ownBlock = some b → B0 ≤ b ∧ ∃ cs, w.heap[b]? = some (.cells cs 43 (0, 0)) := fun b hb => ⟨(hw.ty (own_in.1 hb)).1, (hw.ty (own_in.1 hb)).2.2⟩
  have e1 : ∀ (b : Nat) o, w.heap[b]? = some o → (∀ cs (p : Nat × Nat), o ≠ Obj.cells cs 43 p) → w5.heap[b]? = w.heap[b]? := fun b o hb hne => by
    have hlt := (Array.getElem?_eq_some_iff.1 hb).1
    have := hW.size
    rw [hg.block b (by omega) (fun e => by
      obtain ⟨_, cs, hc⟩ := hrow b e.symm
      rw [hc] at hb
      injection hb with hb
      exact hne _ _ hb.symm), hW.block b hlt]
  have box5 : w5.heap[pb + 1]? = some (.cells #[x0, x1, .slice WA wn wc] 32 (0, 0)) := (e1 _ _ hp1 (fun cs p e => by injection e with _ e; cases e)).trans hp1
  have e0 := heap_setCell_same w5 (pb + 1) 2 _ 32 (.slice (some ⟨g5, 0, none⟩) (wn + 1) k5) box5
  have hg5 : g5 ≠ pb + 1 := fun e => by
    rcases hown.2 with ⟨hv, _⟩ | ⟨g6, cap', cur, hv, _, hg6, _⟩
    · cases hv
    · injection hv with ha _ _
      injection ha with ha
      injection ha with ha _ _
      rw [← ha, e, box5] at hg6
      injection hg6 with hg6
      injection hg6 with _ hg6
      cases hg6
  have e : ∀ (b : Nat) o, w.heap[b]? = some o → (∀ cs (p : Nat × Nat), o ≠ Obj.cells cs 43 p) → b ≠ pb + 1 → (w5.setCell ⟨pb + 1, 2, none⟩ (.slice (some ⟨g5, 0, none⟩) (wn + 1) k5)).heap[b]? = w.heap[b]? := fun b o hb hne hne2 => by
    rw [heap_setCell_other _ _ _ _ hne2]
    exact e1 b o hb hne
  have hsz : w.heap.size ≤ (w5.setCell ⟨pb + 1, 2, none⟩ (.slice (some ⟨g5, 0, none⟩) (wn + 1) k5)).heap.size := by have := hW.size; have := hg.size; simp; omega
  refine ⟨h.other hsz (fun b o hb ho => ?_), ⟨by simp [hw.1], ?_⟩, (e _ _ hp0 (fun cs p e => by injection e with _ e; cases e) (by omega)).trans hp0, by rw [e0]; simp, ?_⟩
  · rcases ho with ⟨cs, p, T, rfl, hT⟩ | ⟨es, c, rfl⟩
    · refine e b _ hb (fun cs' p' e => by injection e with _ e _; rcases hT with h | h | h | h <;> (subst h; cases e)) (fun e => ?_)
      rw [e, hp1] at hb
      injection hb with hb
      injection hb with _ hb _
      rcases hT with h | h | h | h <;> (subst h; cases hb)
    · refine e b _ hb (fun cs' p' e => by cases e) (fun e => ?_)
      rw [e, hp1] at hb
      cases hb
  · rw [wvCells_append]
    refine row_same hown (fun b hb => ?_)
    have := inA_some.1 hb
    simp only at this
    subst this
    exact heap_setCell_other _ _ _ _ hg5
  · have hb1 : Below B0 w w5 := (hW.mono h.base).grown hg (by have := hW.size; have := h.base; omega) (fun k hk => (hrow k hk).1)
    exact hb1.setCell (show B0 ≤ pb + 1 by omega) _
theorem three_heap {w : World} {pb : Nat} {a b c : Value} {T : TypeId} (h : w.heap[pb]? = some (.cells #[a, b, c] T (0, 0))) (v0 v1 v2 : Value) : (((w.setCell ⟨pb, 0, none⟩ v0).setCell ⟨pb, 1, none⟩ v1).setCell ⟨pb, 2, none⟩ v2).heap[pb]? = some (.cells #[v0, v1, v2] T (0, 0)) := by
  have e1 := heap_setCell_same w pb 0 _ T v0 h
  have e2 := heap_setCell_same _ pb 1 _ T v1 e1
  have e3 := heap_setCell_same _ pb 2 _ T v2 e2
  rw [e3]; simp
set_option maxRecDepth 100000 in
set_option maxHeartbeats 4000000 in
theorem plan_any (w : World) (B0 g sb rb : Nat) (u : Int → Option StV) (rd : Int → Int) (SA : Option Addr) (sc : Nat) (stash : List R) (OA : Option Addr) (oc : Nat) (order : List StV) (size : Int) (most : Nat)
    (hW : Wk w B0 g sb rb u rd SA sc stash OA oc order) (hR : Right stash) (hT : tot stash ≤ 1048576) (hS : ∀ r ∈ stash, r.2 ≤ 1048576) (hIs : IR stash) (hsz : I64 size) (hm : 1 ≤ most ∧ most ≤ 64) (hol : order.length ≤ 20000) :
    Calls Try.prog 46 #[.pointer (some ⟨g, 0, none⟩), .int .i64 size, .int .i64 most] w fun e w' => PlanR w B0 size stash most (order.map StV.st) e w' := by
  obtain ⟨k0, ki, kz0, kz1, kz2⟩ := info_parts info43
  have HR := Lib.hid hR; have HS := Lib.hid hS; have HIS := Lib.hid hIs; have HSZ := Lib.hid hsz
  have hb1 : Below w.heap.size w (w.alloc (.cells #[.int .i64 0, .slice none 0 0, .slice none 0 0] 32)) := (Below.refl _ _).alloc (Nat.le_refl _) _
  have hb2 : Below w.heap.size w ((w.alloc (.cells #[.int .i64 0, .slice none 0 0, .slice none 0 0] 32)).alloc (.cells #[.int .i64 size, .slice SA stash.length sc, .slice none 0 0] 32)) := hb1.alloc hb1.size _
  have HW2 := Lib.hid (hW.up hb2)
  have HB2 := Lib.hid (hb2.mono hW.base)
  have hBp := hW.base
  have hc2 := hW.cells.2.2.1
  have hc2' := (hb1.cell (p := ⟨g, 2, none⟩) hW.lt).trans hc2
  have hp0 : Hid (((w.alloc (.cells #[.int .i64 0, .slice none 0 0, .slice none 0 0] 32)).alloc (.cells #[.int .i64 size, .slice SA stash.length sc, .slice none 0 0] 32)).heap[w.heap.size]? = some (.cells #[.int .i64 0, .slice none 0 0, .slice none 0 0] 32 (0, 0))) := Lib.hid (by
    have h := heap_alloc_new w (.cells #[.int .i64 0, .slice none 0 0, .slice none 0 0] 32)
    have hl := (Array.getElem?_eq_some_iff.1 h).1
    exact ((Below.refl (w.alloc _).heap.size (w.alloc _)).alloc (Nat.le_refl _) _ |>.block _ hl).trans h)
  have hp1 : Hid (((w.alloc (.cells #[.int .i64 0, .slice none 0 0, .slice none 0 0] 32)).alloc (.cells #[.int .i64 size, .slice SA stash.length sc, .slice none 0 0] 32)).heap[w.heap.size + 1]? = some (.cells #[.int .i64 size, .slice SA stash.length sc, .slice none 0 0] 32 (0, 0))) := Lib.hid (by
    have h := heap_alloc_new (w.alloc (.cells #[.int .i64 0, .slice none 0 0, .slice none 0 0] 32)) (.cells #[.int .i64 size, .slice SA stash.length sc, .slice none 0 0] 32)
    have e : (w.alloc (.cells #[.int .i64 0, .slice none 0 0, .slice none 0 0] 32)).heap.size = w.heap.size + 1 := by simp
    rwa [e] at h)
  clear hR hS hIs hsz hW hb1 hb2
  go_enter Try.func46, Try.ntmps46
  go_upto_region 2 with (fail)
  generalize (w.alloc (.cells #[.int .i64 0, .slice none 0 0, .slice none 0 0] 32)).alloc (.cells #[.int .i64 size, .slice SA stash.length sc, .slice none 0 0] 32) = W2 at *
  generalize hpb : w.heap.size = pb at *
  clear hc2 hc2' hpb
  have hc3 := HW2.out.cells.2.2.2
  go_wp2_with fail
  clear hc3
  go_loopw [22] (fun i wx => ∃ (k : Nat) (ord : List StV), k ≤ order.length ∧ i = .int .i64 k ∧ Hid (Wk wx B0 g sb rb u rd SA sc stash OA oc ord ∧ MvO stash order ord k ∧ Below B0 w wx ∧ wx.heap[pb]? = some (.cells #[.int .i64 0, .slice none 0 0, .slice none 0 0] 32 (0, 0)) ∧ wx.heap[pb + 1]? = some (.cells #[.int .i64 size, .slice SA stash.length sc, .slice none 0 0] 32 (0, 0)))) (fun i _ => order.length - (intOf i).toNat)
  case atStart => exact ⟨0, order, Nat.zero_le _, rfl, Lib.hid ⟨HW2.out, ⟨rfl, fun j s hj => by omega, fun j _ => rfl⟩, HB2.out, hp0.out, hp1.out⟩⟩
  case round =>
    clear HW2 HB2 hp0 hp1
    obtain ⟨i, ord, hi, rfl, HI⟩ := hrel
    by_cases hlt : i < order.length
    · obtain ⟨s, hs⟩ := get_some order i hlt
      have hso : ord[i]? = some s := by rw [HI.out.2.1.rest i (Nat.le_refl _)]; exact hs
      obtain ⟨ob, rfl, hob, d0, d1⟩ := HI.out.1.row.cellAt hso
      obtain ⟨_, _, cur, hcur⟩ := HI.out.1.row.ty (inA_some.2 rfl)
      have hsg := HI.out.1.os s (List.mem_of_getElem? hso)
      have hlen := HI.out.2.1.len
      have c2 := HI.out.1.cells.2.2.1
      have c3 := HI.out.1.cells.2.2.2
      have z1 : wr.frozen? ⟨ob, i * 2 + 1, none⟩ = false := frozen_of_row _ _ _ _ _ hcur
      have hgl := HI.out.1.lt
      rw [hlen] at c3
      have HMv : Hid (Calls Try.prog 65 #[.slice s.A s.parts.length s.c, .slice SA stash.length sc] wr.drew fun e w' => (∃ A n c, e = .returned (.slice A n c) ∧ Sc.Own w' wr.heap.size A n c (movedL s.parts stash)) ∧ Below wr.heap.size wr.drew w') := Lib.hid
        (moved_any s.A s.parts.length s.c s.parts SA stash.length sc stash wr.drew rfl hsg.ok.rd hsg.may rfl HI.out.1.st.rd HR.out hT HS.out)
      have HSG := Lib.hid hsg
      have HSO := Lib.hid hso
      have HS0 := Lib.hid hs
      have HCU := Lib.hid hcur
      clear hs hso hcur hsg hlen
      go_upto_region 5 with (fail)
      go_wp2_with fail
      go_region_law ((go_simp; go_at_call 65; refine HMv.out.mono ?_; rintro e w6 ⟨⟨A6, n6, c6, rfl, ho6⟩, hb6⟩; have HO6 := Lib.hid ho6; have HB6 := Lib.hid hb6; clear ho6 hb6; have c26 := (HB6.out.cell (p := ⟨g, 2, none⟩) hgl).trans c2; have c36 := (HB6.out.cell (p := ⟨g, 3, none⟩) hgl).trans c3; have d16 := (HB6.out.cell (p := ⟨ob, i * 2 + 1, none⟩) hob).trans d1; have z16 := (HB6.out.frozen (p := ⟨ob, i * 2 + 1, none⟩) hob).trans z1))
      all_goals
        have hn6 := HO6.out.1
        subst hn6
        have hbq : Below wr.heap.size wr w6 := ⟨HB6.out.os, HB6.out.tape, HB6.out.output, HB6.out.size, HB6.out.block⟩
        obtain ⟨hm1, _, _, hm4⟩ := moved_ok HSG.out.may HR.out hT
        obtain ⟨x1, x2⟩ := (HI.out.1.up hbq).part (s' := ⟨s.blk, A6, c6, movedL s.parts stash⟩) HSO.out (StG.of_own HO6.out s.blk HSG.out.ok.b hm1 (by rw [hm4]; exact HSG.out.few)) rfl rfl
        have hp : ∀ (q : Nat) cs, wr.heap[q]? = some (Obj.cells cs 32 (0, 0)) → (w6.setCell ⟨ob, i * 2 + 1, none⟩ (.slice A6 (movedL s.parts stash).length c6)).heap[q]? = some (Obj.cells cs 32 (0, 0)) := fun q cs hq => by
          rw [heap_setCell_other _ _ _ _ (fun e => by
            simp only at e
            have h := HCU.out
            rw [← e, hq] at h
            injection h with h
            injection h with _ h
            cases h)]
          exact (hbq.block q (Array.getElem?_eq_some_iff.1 hq).1).trans hq
        have X := Lib.hid (And.intro x1 (And.intro (HI.out.2.1.next (s' := ⟨s.blk, A6, c6, movedL s.parts stash⟩) HS0.out rfl rfl) (And.intro ((HI.out.2.2.1.trans (hbq.mono HI.out.1.base)).trans x2) (And.intro (hp _ _ HI.out.2.2.2.1) (hp _ _ HI.out.2.2.2.2)))))
        clear x1 x2 hp hbq hm1 hm4 HO6 HB6 c26 c36 d16 z16 c2 c3 d0 d1 z1 HMv
        generalize w6.setCell ⟨ob, i * 2 + 1, none⟩ (.slice A6 (movedL s.parts stash).length c6) = w7 at *
        go_wp2_with fail
        go_roundw
        case measure => simp [intOf]; omega
        case rel => exact ⟨i + 1, _, by omega, by go_num, X⟩
    · obtain rfl : i = order.length := by omega
      clear hlt
      have HALL := Lib.hid HI.out.2.1.all
      have hlen := HI.out.2.1.len
      have HLEN := Lib.hid hlen
      have hc3 := HI.out.1.cells.2.2.2
      rw [hlen] at hc3
      have hoc := HI.out.1.row.cap
      rw [hlen] at hoc
      have HOA : Hid (0 < order.length → ∃ ob, OA = some ⟨ob, 0, none⟩) := Lib.hid (fun hp => by
        obtain ⟨s, hs⟩ := get_some ord 0 (by omega)
        obtain ⟨ob, e, _⟩ := HI.out.1.row.cellAt hs
        exact ⟨ob, e⟩)
      clear hlen
      generalize hN : order.length = N at *
      have HN := Lib.hid hN
      clear hN hi
      go_wp2_with fail
      clear hc3
      go_loopw [9] (fun v wx => ∃ (q : Nat) (A : Option Addr) (c : Nat) (W : List WvV) (WA : Option Addr) (wn wc : Nat), q ≤ N ∧ wn ≤ q ∧ v = .slice A (N - q) c ∧ N - q ≤ c ∧ c ≤ maxLen ∧ Hid ((q < N → ∃ ob, OA = some ⟨ob, 0, none⟩ ∧ A = some ⟨ob, q * 2, none⟩) ∧ Wk wx B0 g sb rb u rd SA sc stash OA oc ord ∧ OwnW wx B0 WA wn wc W ∧ wx.heap[pb]? = some (.cells #[.int .i64 0, .slice none 0 0, .slice none 0 0] 32 (0, 0)) ∧ wx.heap[pb + 1]? = some (.cells #[.int .i64 size, .slice SA stash.length sc, .slice WA wn wc] 32 (0, 0)) ∧ Below B0 w wx ∧ W.map WvV.wv ++ chunks most ((ord.map StV.st).drop q) = chunks most (ord.map StV.st) ∧ Pcs OA ord W)) (fun v _ => lenV v)
      case atStart => exact ⟨0, OA, oc, [], _, 0, 0, Nat.zero_le _, Nat.zero_le _, by simp, by simpa using hoc.1, hoc.2, Lib.hid ⟨fun hp => by obtain ⟨ob, e⟩ := HOA.out hp; exact ⟨ob, e, by simpa using e⟩, HI.out.1, OwnW.nil _ _, HI.out.2.2.2.1, HI.out.2.2.2.2, HI.out.2.2.1, by simp, fun v hv => by cases hv⟩⟩
      case round =>
        clear HI
        obtain ⟨q, A, c, W, WA, wn, wc, hq, hwn, rfl, hdc, hcm, HJ⟩ := hrel
        by_cases hqN : q < N
        · obtain ⟨ob, hOA, rfl⟩ := HJ.out.1 hqN
          have HOB := Lib.hid hOA
          clear hOA
          obtain ⟨d, hd⟩ : ∃ d, N - q = d + 1 := ⟨N - q - 1, by omega⟩
          rw [hd]
          rw [hd] at hdc
          have hkN : min (most : Int) ((d : Int) + 1) = ((min most (d + 1) : Nat) : Int) := by omega
          have hk1 : 1 ≤ min most (d + 1) ∧ min most (d + 1) ≤ d + 1 ∧ min most (d + 1) ≤ 64 := by omega
          have HKM : Hid (∀ l : List Stp, l.length = d + 1 → l.take most = l.take (min most (d + 1)) ∧ l.drop most = l.drop (min most (d + 1))) := Lib.hid (fun l hl => by
            by_cases h : most ≤ d + 1
            · rw [Nat.min_eq_left h]; exact ⟨rfl, rfl⟩
            · rw [Nat.min_eq_right (by omega), List.take_of_length_le (by omega), List.take_of_length_le (by omega), List.drop_eq_nil_of_le (by omega), List.drop_eq_nil_of_le (by omega)]
              exact ⟨rfl, rfl⟩)
          generalize hkk : min most (d + 1) = k at *
          clear hkk
          unfold maxLen at hcm
          have g1 : (0 : Int) < (d : Int) + 1 := by omega
          have g2 : (k : Int) ≤ (c : Int) := by omega
          have g3 : (k : Int) ≤ (d : Int) + 1 := by omega
          have g4 : ¬ c = 0 := by omega
          have c2 : wr.cell? ⟨pb + 1, 2, none⟩ = some (.slice WA wn wc) := cell_of_row _ _ 2 _ 32 (0, 0) HJ.out.2.2.2.2.1
          have z2 : wr.frozen? ⟨pb + 1, 2, none⟩ = false := frozen_of_row _ _ 2 _ _ HJ.out.2.2.2.2.1
          have hgl := (Array.getElem?_eq_some_iff.1 HJ.out.2.2.2.2.1).1
          have hB0 := HJ.out.2.1.base
          have HNG : Hid (some (pb + 1) ≠ (Value.slice WA wn wc).ownBlock) := Lib.hid (fun e => by
            obtain ⟨_, _, cs, hc⟩ := HJ.out.2.2.1.ty (own_in.1 e.symm)
            have h := HJ.out.2.2.2.2.1
            rw [hc] at h
            injection h with h
            injection h with _ h
            cases h)
          have HRW := Lib.hid HJ.out.2.2.1
          have HN2 : Hid (Pcs OA ord (W ++ [⟨some ⟨ob, q * 2, none⟩, k, (ord.drop q).take k⟩])) := Lib.hid (fun v hv => by
            rcases List.mem_append.1 hv with hv | hv
            · exact HJ.out.2.2.2.2.2.2.2 v hv
            · simp at hv
              exact ⟨ob, q, k, HOB.out, by have := HLEN.out; omega, hv⟩)
          have HC2 : Hid ((W ++ ([⟨some ⟨ob, q * 2, none⟩, k, (ord.drop q).take k⟩] : List WvV)).map WvV.wv ++ chunks most ((ord.map StV.st).drop (q + k)) = chunks most (ord.map StV.st)) := Lib.hid (by
            rw [← HJ.out.2.2.2.2.2.2.1, List.map_append, List.append_assoc]
            congr 1
            have hl : ((ord.map StV.st).drop q).length = d + 1 := by simp only [List.length_drop, List.length_map]; have := HLEN.out; omega
            have hne : (ord.map StV.st).drop q ≠ [] := fun e => by rw [e] at hl; simp at hl
            rw [chunks_next hm.1 hne, (HKM.out _ hl).1, (HKM.out _ hl).2, List.drop_drop]
            simp [WvV.wv, List.map_take, List.map_drop])
          have HVC : Hid (wvCells ([⟨some ⟨ob, q * 2, none⟩, k, (ord.drop q).take k⟩] : List WvV) = [.slice (some ⟨ob, q * 2, none⟩) k k]) := Lib.hid (by
            have e : ((ord.drop q).take k).length = k := by simp only [List.length_take, List.length_drop]; have := HLEN.out; omega
            simp only [wvCells, List.map_cons, List.map_nil, e])
          clear HKM
          go_wp2_with fail
          go_region_law (refine step_append_lies _ (by rfl) (.tmp 58) (.tmp 63) 30 (by rfl) B0 43 k0 _ 1 24 Try.underlying30 ki kz0 kz1 kz2 rfl (by omega) (.slice WA wn wc) wn (wvCells W) (by rfl) (HRW.out.2.alloc _) ⟨wr.heap.size, 0, none⟩ 1 1 [.slice (some ⟨ob, q * 2, none⟩) k k] (by rfl) (by rfl) (World.news_of_block (heap_alloc_new _ _)) (by simp [Value.oneCell']) (by omega) (by unfold maxLen; omega) (by omega) (by simp; omega) (wr.heap.size + 1) (by simp) ?_; intro g5 k5 w5 hown5 hgrow5 hat5 hlt5; have c25 := (hgrow5.cell_far ⟨pb + 1, 2, none⟩ (by simp; omega) HNG.out).trans ((World.cell?_alloc_lt _ _ _ hgl).trans c2); have z25 := (hgrow5.frozen_far ⟨pb + 1, 2, none⟩ (by simp; omega) HNG.out).trans (((Below.refl wr.heap.size wr).alloc (Nat.le_refl _) _).frozen (p := ⟨pb + 1, 2, none⟩) hgl |>.trans z2))
          all_goals
            obtain ⟨x1, x2, x3, x4, x5⟩ := pl_push HJ.out.2.1 HJ.out.2.2.1 hBp HJ.out.2.2.2.1 HJ.out.2.2.2.2.1 (belowDrewN ((Below.refl wr.heap.size wr).alloc (Nat.le_refl _) _) 1) (v := ⟨some ⟨ob, q * 2, none⟩, k, (ord.drop q).take k⟩) (by rw [HVC.out]; exact hown5) hgrow5 hat5 (by omega)
            have X := Lib.hid (And.intro x1 (And.intro x2 (And.intro x3 (And.intro x4 (HJ.out.2.2.2.2.2.1.trans x5)))))
            clear x1 x2 x3 x4 x5 hown5 hgrow5 hat5 hlt5 c25 z25 c2 z2 hgl hB0
            generalize w5.setCell ⟨pb + 1, 2, none⟩ (.slice (some ⟨g5, 0, none⟩) (wn + 1) k5) = w6 at *
            by_cases hck : c = k
            · go_wp2_with fail
              go_roundw
              case measure => simp only [lenV]; omega
              case rel => exact ⟨q + k, _, c - k, _, some ⟨g5, 0, none⟩, wn + 1, k5, by omega, by omega, by congr 1 <;> omega, by omega, by unfold maxLen; omega, Lib.hid ⟨fun h => by omega, X.out.1, X.out.2.1, X.out.2.2.1, X.out.2.2.2.1, X.out.2.2.2.2, HC2.out, HN2.out⟩⟩
            · go_wp2_with fail
              go_roundw
              case measure => simp only [lenV]; omega
              case rel => exact ⟨q + k, some ⟨ob, (q + k) * 2, none⟩, c - k, _, some ⟨g5, 0, none⟩, wn + 1, k5, by omega, by omega, by congr 1 <;> first | omega | (congr 2; omega), by omega, by unfold maxLen; omega, Lib.hid ⟨fun h => ⟨ob, HOB.out, rfl⟩, X.out.1, X.out.2.1, X.out.2.2.1, X.out.2.2.2.1, X.out.2.2.2.2, HC2.out, HN2.out⟩⟩
        · obtain rfl : q = N := by omega
          clear hqN
          rw [Nat.sub_self]
          have c0 : wr.cell? ⟨pb + 1, 0, none⟩ = some (.int .i64 size) := cell_of_row _ _ 0 _ 32 (0, 0) HJ.out.2.2.2.2.1
          have c1 : wr.cell? ⟨pb + 1, 1, none⟩ = some (.slice SA stash.length sc) := cell_of_row _ _ 1 _ 32 (0, 0) HJ.out.2.2.2.2.1
          have c2 : wr.cell? ⟨pb + 1, 2, none⟩ = some (.slice WA wn wc) := cell_of_row _ _ 2 _ 32 (0, 0) HJ.out.2.2.2.2.1
          have p0 : wr.cell? ⟨pb, 0, none⟩ = some (.int .i64 0) := cell_of_row _ _ 0 _ 32 (0, 0) HJ.out.2.2.2.1
          have p1 : wr.cell? ⟨pb, 1, none⟩ = some (.slice none 0 0) := cell_of_row _ _ 1 _ 32 (0, 0) HJ.out.2.2.2.1
          have p2 : wr.cell? ⟨pb, 2, none⟩ = some (.slice none 0 0) := cell_of_row _ _ 2 _ 32 (0, 0) HJ.out.2.2.2.1
          have z0 : wr.frozen? ⟨pb, 0, none⟩ = false := frozen_of_row _ _ 0 _ _ HJ.out.2.2.2.1
          have z1 : wr.frozen? ⟨pb, 1, none⟩ = false := frozen_of_row _ _ 1 _ _ HJ.out.2.2.2.1
          have z2 : wr.frozen? ⟨pb, 2, none⟩ = false := frozen_of_row _ _ 2 _ _ HJ.out.2.2.2.1
          go_wp2_with fail
          have hwl := HJ.out.2.2.1.1
          have hh := three_heap HJ.out.2.2.2.1 (.int .i64 size) (.slice SA stash.length sc) (.slice WA wn wc)
          have hsame : ∀ b, b ≠ pb → (((wr.setCell ⟨pb, 0, none⟩ (.int .i64 size)).setCell ⟨pb, 1, none⟩ (.slice SA stash.length sc)).setCell ⟨pb, 2, none⟩ (.slice WA wn wc)).heap[b]? = wr.heap[b]? := fun b hb => by
            rw [heap_setCell_other _ _ _ _ hb, heap_setCell_other _ _ _ _ hb, heap_setCell_other _ _ _ _ hb]
          have hwk := HJ.out.2.1.other (w' := ((wr.setCell ⟨pb, 0, none⟩ (.int .i64 size)).setCell ⟨pb, 1, none⟩ (.slice SA stash.length sc)).setCell ⟨pb, 2, none⟩ (.slice WA wn wc)) (by simp) (fun b o hb ho => hsame b (fun e => by
            have h := HJ.out.2.2.2.1
            rw [e, h] at hb
            injection hb with hb
            rcases ho with ⟨cs, p, T, rfl, hT⟩ | ⟨es, c, rfl⟩
            · injection hb with _ hb _
              rcases hT with h | h | h | h <;> (subst h; cases hb)
            · cases hb))
          have how := HJ.out.2.2.1.same (w' := ((wr.setCell ⟨pb, 0, none⟩ (.int .i64 size)).setCell ⟨pb, 1, none⟩ (.slice SA stash.length sc)).setCell ⟨pb, 2, none⟩ (.slice WA wn wc)) (fun b hb => hsame b (fun e => by
            obtain ⟨_, _, cs, hc⟩ := HJ.out.2.2.1.ty hb
            have h := HJ.out.2.2.2.1
            rw [← e, hc] at h
            injection h with h
            injection h with _ h _
            cases h))
          have hbel : Below B0 w (((wr.setCell ⟨pb, 0, none⟩ (.int .i64 size)).setCell ⟨pb, 1, none⟩ (.slice SA stash.length sc)).setCell ⟨pb, 2, none⟩ (.slice WA wn wc)) := ((HJ.out.2.2.2.2.2.1.setCell (p := ⟨pb, 0, none⟩) hBp _).setCell (p := ⟨pb, 1, none⟩) hBp _).setCell (p := ⟨pb, 2, none⟩) hBp _
          generalize ((wr.setCell ⟨pb, 0, none⟩ (.int .i64 size)).setCell ⟨pb, 1, none⟩ (.slice SA stash.length sc)).setCell ⟨pb, 2, none⟩ (.slice WA wn wc) = wf at *
          have e0 : wf.cell? ⟨pb, 0, none⟩ = some (.int .i64 size) := cell_of_row _ _ 0 _ 32 (0, 0) hh
          have e1 : wf.cell? ⟨pb, 1, none⟩ = some (.slice SA stash.length sc) := cell_of_row _ _ 1 _ 32 (0, 0) hh
          have e2 : wf.cell? ⟨pb, 2, none⟩ = some (.slice WA wn wc) := cell_of_row _ _ 2 _ 32 (0, 0) hh
          refine bodyPost_ret (v := .agg #[.int .i64 size, .slice SA stash.length sc, .slice WA wn wc]) (by simp [results, Try.results46, go_sem, e0, e1, e2]) rfl ?_
          have hpl : ∀ w'', Keep32 wf w'' → PlOk w'' w''.heap.size ⟨size, SA, sc, stash, WA, wc, W⟩ := fun w'' hk => by
            have hwk2 := hwk.other hk.1 (fun b o hb ho => (hk.2 b o hb (fun cs p e => by
              subst e
              rcases ho with ⟨cs', p', T, e, hT⟩ | ⟨es, c, e⟩
              · injection e with _ e _
                rcases hT with h | h | h | h <;> (subst h; cases e)
              · cases e)).trans hb.symm)
            have how2 := how.same (w' := w'') (fun b hb => by
              obtain ⟨_, _, cs, hc⟩ := how.ty hb
              exact (hk.2 b _ hc (fun cs' p e => by injection e with _ e _; cases e)).trans hc.symm)
            refine ⟨hwk2.st.rd, hwk2.st.cap, hwk2.st.no, HIS.out, wvs_ok hwk2 (by have := HLEN.out; omega) how2 HJ.out.2.2.2.2.2.2.2, ?_, fun h => ?_, HSZ.out⟩
            · have h := how2.cap; unfold maxLen at h; simp only; omega
            · rcases how2.2.2 with ⟨hv, hn⟩ | ⟨g', cap', cur, hv, _⟩
              · injection hv with _ _ hc; simp only; omega
              · injection hv with ha _ _; simp only at h; rw [h] at ha; cases ha
          refine ⟨⟨size, SA, sc, stash, WA, wc, W⟩, by rw [← hwl]; rfl, hpl, ?_, hbel⟩
          · have h1 := HJ.out.2.2.2.2.2.2.1
            have h2 : (ord.map StV.st).drop q = [] := List.drop_eq_nil_of_le (by have := HLEN.out; simp; omega)
            rw [h2, chunks_nil, List.append_nil, HALL.out] at h1
            show (⟨size, stash, W.map WvV.wv⟩ : Pln) = _
            rw [h1]
end Go.Proofs.Yteceephenfmdoaa
