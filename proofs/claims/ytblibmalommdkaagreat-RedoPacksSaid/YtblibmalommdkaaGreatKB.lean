/-
  KB: texts of one kind, one behind the other.
-/
import Derived.Test.YtblibmalommdkaaGreatED
import Derived.Test.YtblibmalommdkaaGreatNCopy
/-
  A plan that is being read, in memory: the reader's box, the plan to be, its rows.
-/
namespace Go.Proofs.YtblibmalommdkaaGreat
open Go.RowKit
open Re (Rdr Bytes num many Many pPlan pRange pWave pStep pPart leVal gaveUp)
theorem gr_block {w w' : World} {rb : Nat} (h : w.grownBy w' (some rb)) {b : Nat} (hb : b < w.heap.size) (hne : rb < b) : w'.heap[b]? = w.heap[b]? := h.block b hb (fun e => by injection e with e; omega)
theorem gr_below {w w' : World} {rb B : Nat} (h : w.grownBy w' (some rb)) {w'' : World} (hb : Below B w' w'') (hB : w.heap.size ≤ B) : w.grownBy w'' (some rb) :=
  ⟨hb.os.trans h.os, hb.tape.trans h.tape, hb.output.trans h.output, Nat.le_trans h.size hb.size, fun k hk hne => (hb.block k (by omega)).trans (h.block k hk hne)⟩
theorem gr_trans {w w1 w2 : World} {rb : Nat} (h : w.grownBy w1 (some rb)) (h' : w1.grownBy w2 (some rb)) : w.grownBy w2 (some rb) := Re.grown_trans h h' (fun _ hb => .inl hb)
theorem gr_alloc {w : World} {rb : Nat} (o : Obj) : w.grownBy (w.alloc o) (some rb) := Re.grown_below ((Below.refl _ _).alloc (Nat.le_refl _) _) _
theorem rdr_alloc {w : World} {rb n c a : Nat} {A : Option Addr} {l : List Int} (h : Rdr w rb A n c a l) (o : Obj) : Rdr (w.alloc o) rb A n c a l := h.grown ((Below.refl _ _).alloc (Nat.le_refl _) _)
theorem rdr_set {w : World} {rb n c a : Nat} {A : Option Addr} {l : List Int} (h : Rdr w rb A n c a l) (p : Addr) (v : Value) (hp : rb < p.block) : Rdr (w.setCell p v) rb A n c a l := by
  have key : ∀ q : Addr, q.block ≤ rb → (w.setCell p v).cell? q = w.cell? q := fun q hq => World.cell?_setCell_other _ _ _ _ (by intro e; rw [← e] at hq; omega)
  exact ⟨(key _ (Nat.le_refl _)).trans h.c0, (key _ (Nat.le_refl _)).trans h.c1, (World.frozen?_setCell _ _ _ _).trans h.f1, h.rd.keep fun q hq => key q (Nat.le_of_lt hq), h.len, h.cap, by simpa using h.lt⟩
theorem rdr_grown {w w' : World} {rb n c a : Nat} {A : Option Addr} {l : List Int} {row : Option Nat} (h : Rdr w rb A n c a l) (hg : w.grownBy w' row) (hr : ∀ b, row = some b → rb < b) : Rdr w' rb A n c a l := by
  have key : ∀ b, b ≤ rb → w'.heap[b]? = w.heap[b]? := fun b hb => hg.block b (by have := h.lt; omega) (fun e => by have := hr b e.symm; omega)
  exact ⟨(World.cell?_of_block (key rb (Nat.le_refl _))).trans h.c0, (World.cell?_of_block (key rb (Nat.le_refl _))).trans h.c1, (World.frozen?_of_block (key rb (Nat.le_refl _))).trans h.f1, h.rd.keep fun q hq => World.cell?_of_block (key q.block (Nat.le_of_lt hq)), h.len, h.cap, Nat.lt_of_lt_of_le h.lt hg.size⟩
/-- The reader's box, the result to be, the plan that is being read. -/
structure PS (w wr : World) (rb qb : Nat) (n : Int) (SA : Option Addr) (sc : Nat) (st : List R) (WA : Option Addr) (wc : Nat) (Q : List WvV) : Prop where
  b0 : wr.heap[w.heap.size]? = some (.cells #[.pointer (some ⟨rb, 0, none⟩)] 61 (0, 0))
  b1 : wr.heap[w.heap.size + 1]? = some (.cells #[.int .i64 0, .slice none 0 0, .slice none 0 0] 30 (0, 0))
  b2 : wr.heap[qb]? = some (.cells #[.int .i64 n, .slice SA st.length sc, .slice WA Q.length wc] 30 (0, 0))
  rlt : rb < w.heap.size
  qlt : w.heap.size + 1 < qb
  own : OwnP wr (qb + 1) ⟨n, SA, sc, st, WA, wc, Q⟩
  gr : w.grownBy wr (some rb)
section
variable {w wr w1 : World} {rb qb : Nat} {n : Int} {SA : Option Addr} {sc : Nat} {st : List R} {WA : Option Addr} {wc : Nat} {Q : List WvV}
theorem PS.qs (h : PS w wr rb qb n SA sc st WA wc Q) : qb < wr.heap.size := (Array.getElem?_eq_some_iff.1 h.b2).1
theorem PS.up (h : PS w wr rb qb n SA sc st WA wc Q) (hg : wr.grownBy w1 (some rb)) : PS w w1 rb qb n SA sc st WA wc Q := by
  have h1 := h.qs; have h2 := h.rlt; have h3 := h.qlt
  exact ⟨(gr_block hg (by omega) h2).trans h.b0, (gr_block hg (by omega) (by omega)).trans h.b1, (gr_block hg h1 (by omega)).trans h.b2, h2, h3, h.own.box fun b hb hlt => gr_block hg hlt (by omega), gr_trans h.gr hg⟩
theorem PS.below (h : PS w wr rb qb n SA sc st WA wc Q) (hb : Below wr.heap.size wr w1) : PS w w1 rb qb n SA sc st WA wc Q := h.up (Re.grown_below hb _)
theorem PS.box (h : PS w wr rb qb n SA sc st WA wc Q) : wr.cell? ⟨w.heap.size, 0, none⟩ = some (.pointer (some ⟨rb, 0, none⟩)) := cell_of_row _ _ 0 _ 61 (0, 0) h.b0
theorem PS.c1 (h : PS w wr rb qb n SA sc st WA wc Q) : wr.cell? ⟨qb, 1, none⟩ = some (.slice SA st.length sc) := cell_of_row _ _ 1 _ 30 (0, 0) h.b2
theorem PS.c2 (h : PS w wr rb qb n SA sc st WA wc Q) : wr.cell? ⟨qb, 2, none⟩ = some (.slice WA Q.length wc) := cell_of_row _ _ 2 _ 30 (0, 0) h.b2
/-- A range put behind the stash. -/
theorem PS.stash (h : PS w wr rb qb n SA sc st none 0 []) {W0 w5 : World} (hW : Below wr.heap.size wr W0) {r : R} {SA' : Option Addr} {sc' : Nat} (hown : w5.ownsRow (qb + 1) 74 2 (.slice SA' (st.length + 1) sc') (st.length + 1) (cells st ++ cells [r])) (hg : W0.grownBy w5 (Value.slice SA st.length sc).ownBlock) :
    PS w (w5.setCell ⟨qb, 1, none⟩ (.slice SA' (st.length + 1) sc')) rb qb n SA' sc' (st ++ [r]) none 0 [] := by
  have h1 := h.qs; have h2 := h.rlt; have h3 := h.qlt
  have hin : ∀ b, (Value.slice SA st.length sc).ownBlock = some b → qb + 1 ≤ b := fun b hb => (row_in h.own.st.2 (own_in.1 hb)).1
  have hs := hW.size
  have hb5 : Below (qb + 1) wr w5 := (hW.mono (by omega)).grown hg (by omega) hin
  have e2 := heap_setCell_same w5 qb 1 _ 30 (.slice SA' (st.length + 1) sc') ((hb5.block qb (by omega)).trans h.b2)
  have far : ∀ b, b ≠ qb → (w5.setCell ⟨qb, 1, none⟩ (.slice SA' (st.length + 1) sc')).heap[b]? = w5.heap[b]? := fun b hb => heap_setCell_other _ _ _ _ hb
  refine ⟨(far _ (by omega)).trans ((hb5.block _ (by omega)).trans h.b0), (far _ (by omega)).trans ((hb5.block _ (by omega)).trans h.b1), by rw [e2]; simp, h2, h3, ⟨⟨by simp, ?_⟩, OwnW.nil _ _, fun v hv => (by cases hv), fun i j u v b hi => (by simp at hi)⟩, ?_⟩
  · rw [cells_append]
    simp only [List.length_append, List.length_cons, List.length_nil]
    exact row_hi hown (fun b hb _ _ => far b (by omega))
  · refine ⟨hb5.os.trans h.gr.os, hb5.tape.trans h.gr.tape, hb5.output.trans h.gr.output, by have := h.gr.size; have := hb5.size; simp; omega, fun k hk hne => (far k (by omega)).trans ((hb5.block k (by omega)).trans (h.gr.block k hk hne))⟩
/-- A wave put behind the waves. -/
theorem PS.wave (h : PS w wr rb qb n SA sc st WA wc Q) {W0 w5 : World} (hW : Below wr.heap.size wr W0) {v : WvV} (hv : OwnV wr (qb + 1) v) (hap : ∀ u ∈ Q, ∀ b, inA v.A b → ¬ inA u.A b) {WA' : Option Addr} {wc' : Nat} (hown : w5.ownsRow (qb + 1) 75 1 (.slice WA' (Q.length + 1) wc') (Q.length + 1) (wvCells Q ++ wvCells [v])) (hg : W0.grownBy w5 (Value.slice WA Q.length wc).ownBlock) :
    PS w (w5.setCell ⟨qb, 2, none⟩ (.slice WA' (Q.length + 1) wc')) rb qb n SA sc st WA' wc' (Q ++ [v]) := by
  have h1 := h.qs; have h2 := h.rlt; have h3 := h.qlt
  have hin : ∀ b, (Value.slice WA Q.length wc).ownBlock = some b → qb + 1 ≤ b := fun b hb => (row_in h.own.wv.2 (own_in.1 hb)).1
  have hs := hW.size
  have hb5 : Below (qb + 1) wr w5 := (hW.mono (by omega)).grown hg (by omega) hin
  have hop : OwnP w5 (qb + 1) ⟨n, SA, sc, st, WA', wc', Q ++ [v]⟩ := OwnP.push h.own hv hap hW hown hg
  have e2 := heap_setCell_same w5 qb 2 _ 30 (.slice WA' (Q.length + 1) wc') ((hb5.block qb (by omega)).trans h.b2)
  have far : ∀ b, b ≠ qb → (w5.setCell ⟨qb, 2, none⟩ (.slice WA' (Q.length + 1) wc')).heap[b]? = w5.heap[b]? := fun b hb => heap_setCell_other _ _ _ _ hb
  refine ⟨(far _ (by omega)).trans ((hb5.block _ (by omega)).trans h.b0), (far _ (by omega)).trans ((hb5.block _ (by omega)).trans h.b1), by rw [e2]; simp, h2, h3, hop.box fun b hb _ => far b (by omega), ?_⟩
  refine ⟨hb5.os.trans h.gr.os, hb5.tape.trans h.gr.tape, hb5.output.trans h.gr.output, by have := h.gr.size; have := hb5.size; simp; omega, fun k hk hne => (far k (by omega)).trans ((hb5.block k (by omega)).trans (h.gr.block k hk hne))⟩
end
end Go.Proofs.YtblibmalommdkaaGreat

/-
  A wave, a step, that are being read, in memory.
-/
namespace Go.Proofs.YtblibmalommdkaaGreat
open Go.RowKit
open Re (Rdr Bytes num many Many pPlan pRange pWave pStep pPart leVal gaveUp)
/-- The steps that are read so far: w0 is the world ahead of them. -/
structure WS (w0 wr : World) (rb : Nat) (A : Option Addr) (c : Nat) (T : List StV) : Prop where
  row : OwnS wr w0.heap.size A T.length c T
  parts : ∀ s ∈ T, Sc.Own wr w0.heap.size s.A s.parts.length s.c s.parts
  gr : w0.grownBy wr (some rb)
  rl : rb < w0.heap.size
section
variable {w0 wr w1 : World} {rb c : Nat} {A : Option Addr} {T : List StV}
theorem WS.up (h : WS w0 wr rb A c T) (hg : wr.grownBy w1 (some rb)) : WS w0 w1 rb A c T :=
  ⟨h.row.same fun b hb => gr_block hg (h.row.ty hb).2.1 (by have := (h.row.ty hb).1; have := h.rl; omega), fun s hs => ⟨(h.parts s hs).1, row_hi (h.parts s hs).2 fun b hb hlt _ => gr_block hg hlt (by have := h.rl; omega)⟩, gr_trans h.gr hg, h.rl⟩
theorem WS.start (w0 : World) (rb : Nat) (h : rb < w0.heap.size) : WS w0 w0 rb none 0 [] := ⟨OwnS.nil _ _, fun s hs => (by cases hs), World.grownBy.refl _ _, h⟩
theorem WS.push (h : WS w0 wr rb A c T) {s : StV} (hp : Sc.Own wr w0.heap.size s.A s.parts.length s.c s.parts) {W0 w5 : World} (hW : Below wr.heap.size wr W0) {v' : Value} (hown : w5.ownsRow w0.heap.size 78 2 v' (T.length + 1) (stCells T ++ stCells [s])) (hg : W0.grownBy w5 (Value.slice A T.length c).ownBlock) :
    ∃ A' c', v' = .slice A' (T.length + 1) c' ∧ WS w0 w5 rb A' c' (T ++ [s]) := by
  obtain ⟨A', c', rfl, ho⟩ := OwnS.push h.row hown hg
  have hs := hW.size
  have hs0 := h.gr.size
  have far : ∀ b, b < wr.heap.size → (∃ cs, wr.heap[b]? = some (Obj.cells cs 80 (0, 0))) → w5.heap[b]? = wr.heap[b]? := fun b hb ⟨cs, hc⟩ => by
    rw [hg.block b (by omega) (fun e => by
      obtain ⟨_, _, cs', hc'⟩ := h.row.ty (own_in.1 e.symm)
      rw [hc] at hc'
      injection hc' with hc'
      injection hc' with _ h1 _
      cases h1)]
    exact hW.block b hb
  refine ⟨A', c', rfl, by simpa using ho, fun s' hs' => ?_, ?_, h.rl⟩
  · rcases List.mem_append.1 hs' with hs' | hs'
    · exact ⟨(h.parts s' hs').1, row_hi (h.parts s' hs').2 fun b _ hb hc => far b hb hc⟩
    · simp at hs'
      subst hs'
      exact ⟨hp.1, row_hi hp.2 fun b _ hb hc => far b hb hc⟩
  · have hb5 : Below w0.heap.size wr w5 := (hW.mono hs0).grown hg (by omega) (fun b hb => (h.row.ty (own_in.1 hb)).1)
    exact gr_below h.gr hb5 (Nat.le_refl _)
end
/-- The step that is being read: w0 is the world ahead of it. -/
structure SS (w0 wr : World) (rb : Nat) (blk : Int) (A : Option Addr) (c : Nat) (parts : List S) : Prop where
  b0 : wr.heap[w0.heap.size]? = some (.cells #[.int .i64 blk, .slice A parts.length c] 78 (0, 0))
  own : Sc.Own wr (w0.heap.size + 1) A parts.length c parts
  gr : w0.grownBy wr (some rb)
  rl : rb < w0.heap.size
section
variable {w0 wr w1 : World} {rb c : Nat} {blk : Int} {A : Option Addr} {parts : List S}
theorem SS.qs (h : SS w0 wr rb blk A c parts) : w0.heap.size < wr.heap.size := (Array.getElem?_eq_some_iff.1 h.b0).1
theorem SS.up (h : SS w0 wr rb blk A c parts) (hg : wr.grownBy w1 (some rb)) : SS w0 w1 rb blk A c parts :=
  ⟨(gr_block hg h.qs h.rl).trans h.b0, ⟨h.own.1, row_hi h.own.2 fun b hb hlt _ => gr_block hg hlt (by have := h.rl; omega)⟩, gr_trans h.gr hg, h.rl⟩
theorem SS.c0 (h : SS w0 wr rb blk A c parts) : wr.cell? ⟨w0.heap.size, 0, none⟩ = some (.int .i64 blk) := cell_of_row _ _ 0 _ 78 (0, 0) h.b0
theorem SS.c1 (h : SS w0 wr rb blk A c parts) : wr.cell? ⟨w0.heap.size, 1, none⟩ = some (.slice A parts.length c) := cell_of_row _ _ 1 _ 78 (0, 0) h.b0
theorem SS.start (w0 : World) (rb : Nat) (blk : Int) (h : rb < w0.heap.size) : SS w0 (w0.alloc (.cells #[.int .i64 blk, .slice none 0 0] 78)) rb blk none 0 [] :=
  ⟨heap_alloc_new _ _, Sc.Own.nil _ _, gr_alloc _, h⟩
theorem SS.push (h : SS w0 wr rb blk A c parts) {W0 w5 : World} (hW : Below wr.heap.size wr W0) {x : S} {A' : Option Addr} {c' : Nat} (hown : w5.ownsRow (w0.heap.size + 1) 80 3 (.slice A' (parts.length + 1) c') (parts.length + 1) (Sc.cells parts ++ Sc.cells [x])) (hg : W0.grownBy w5 (Value.slice A parts.length c).ownBlock) :
    SS w0 (w5.setCell ⟨w0.heap.size, 1, none⟩ (.slice A' (parts.length + 1) c')) rb blk A' c' (parts ++ [x]) := by
  have h1 := h.qs; have h2 := h.rl
  have hs := hW.size
  have hb5 : Below (w0.heap.size + 1) wr w5 := (hW.mono (by omega)).grown hg (by omega) (fun b hb => (row_in h.own.2 (own_in.1 hb)).1)
  have e2 := heap_setCell_same w5 w0.heap.size 1 _ 78 (.slice A' (parts.length + 1) c') ((hb5.block _ (by omega)).trans h.b0)
  have far : ∀ b, b ≠ w0.heap.size → (w5.setCell ⟨w0.heap.size, 1, none⟩ (.slice A' (parts.length + 1) c')).heap[b]? = w5.heap[b]? := fun b hb => heap_setCell_other _ _ _ _ hb
  refine ⟨by rw [e2]; simp, ⟨by simp, ?_⟩, ?_, h2⟩
  · rw [Sc.cells_append]
    simp only [List.length_append, List.length_cons, List.length_nil]
    exact row_hi hown (fun b hb _ _ => far b (by omega))
  · refine ⟨hb5.os.trans h.gr.os, hb5.tape.trans h.gr.tape, hb5.output.trans h.gr.output, by have := h.gr.size; have := hb5.size; simp; omega, fun k hk hne => (far k (by omega)).trans ((hb5.block k (by omega)).trans (h.gr.block k hk hne))⟩
end
end Go.Proofs.YtblibmalommdkaaGreat

/-
  A journal that is being read by the reference, in memory.
-/
namespace Go.Proofs.YtblibmalommdkaaGreat
open Go.RowKit
open Re (Rdg Bytes num many Many pPlan pRange pWave pStep pPart leVal)
def jz : Array Value := #[.int .i64 0, .int .i64 0, .int .i64 0, .int .i64 0, .int .i64 0, .int .i64 0, .int .i64 0, .slice none 0 0, .slice none 0 0, .slice none 0 0]
/-- The result to be, the journal that is being read. -/
structure JS (w wr : World) (gb jb : Nat) (old s0 s1 s2 s3 s4 n : Int) (SA : Option Addr) (sc : Nat) (st : List R) (WA : Option Addr) (wc : Nat) (Q : List WvV) : Prop where
  b0 : wr.heap[w.heap.size]? = some (.cells #[.int .i64 0, .int .i64 0, .int .i64 0, .int .i64 0, .int .i64 0, .int .i64 0, .int .i64 0, .slice none 0 0, .slice none 0 0, .slice none 0 0] 32 (0, 0))
  b2 : wr.heap[jb]? = some (.cells #[.int .i64 old, .int .i64 s0, .int .i64 s1, .int .i64 s2, .int .i64 s3, .int .i64 s4, .int .i64 n, .slice SA st.length sc, .slice WA Q.length wc, .slice none 0 0] 32 (0, 0))
  glt : w.heap.size < gb
  qlt : gb < jb
  own : OwnP wr (jb + 1) ⟨n, SA, sc, st, WA, wc, Q⟩
  gr : Below w.heap.size w wr
section
variable {w wr w1 : World} {gb jb : Nat} {old s0 s1 s2 s3 s4 n : Int} {SA : Option Addr} {sc : Nat} {st : List R} {WA : Option Addr} {wc : Nat} {Q : List WvV}
theorem JS.qs (h : JS w wr gb jb old s0 s1 s2 s3 s4 n SA sc st WA wc Q) : jb < wr.heap.size := (Array.getElem?_eq_some_iff.1 h.b2).1
theorem JS.up (h : JS w wr gb jb old s0 s1 s2 s3 s4 n SA sc st WA wc Q) (hg : wr.grownBy w1 (some gb)) : JS w w1 gb jb old s0 s1 s2 s3 s4 n SA sc st WA wc Q := by
  have h1 := h.qs; have h2 := h.glt; have h3 := h.qlt
  refine ⟨(hg.block _ (by omega) (fun e => by injection e with e; omega)).trans h.b0, (gr_block hg h1 (by omega)).trans h.b2, h2, h3, h.own.box fun b hb hlt => gr_block hg hlt (by omega), h.gr.grown hg (by omega) (fun k hk => by injection hk with hk; omega)⟩
theorem JS.below (h : JS w wr gb jb old s0 s1 s2 s3 s4 n SA sc st WA wc Q) (hb : Below wr.heap.size wr w1) : JS w w1 gb jb old s0 s1 s2 s3 s4 n SA sc st WA wc Q := h.up (Re.grown_below hb _)
theorem JS.c7 (h : JS w wr gb jb old s0 s1 s2 s3 s4 n SA sc st WA wc Q) : wr.cell? ⟨jb, 7, none⟩ = some (.slice SA st.length sc) := cell_of_row _ _ 7 _ 32 (0, 0) h.b2
theorem JS.c8 (h : JS w wr gb jb old s0 s1 s2 s3 s4 n SA sc st WA wc Q) : wr.cell? ⟨jb, 8, none⟩ = some (.slice WA Q.length wc) := cell_of_row _ _ 8 _ 32 (0, 0) h.b2
theorem JS.fz (h : JS w wr gb jb old s0 s1 s2 s3 s4 n SA sc st WA wc Q) (j : Nat) : wr.frozen? ⟨jb, j, none⟩ = false := frozen_of_row _ _ j _ _ h.b2
theorem JS.put1 (h : JS w wr gb jb old s0 s1 s2 s3 s4 n SA sc st WA wc Q) (x : Int) : JS w (wr.setCell ⟨jb, 1, none⟩ (.int .i64 x)) gb jb old x s1 s2 s3 s4 n SA sc st WA wc Q := by
  have h1 := h.qs; have h2 := h.glt; have h3 := h.qlt
  have e2 := heap_setCell_same wr jb 1 _ 32 (.int .i64 x) h.b2
  have far : ∀ b, b ≠ jb → (wr.setCell ⟨jb, 1, none⟩ (.int .i64 x)).heap[b]? = wr.heap[b]? := fun b hb => heap_setCell_other _ _ _ _ hb
  exact ⟨(far _ (by omega)).trans h.b0, by rw [e2]; simp, h2, h3, h.own.box fun b hb _ => far b (by omega), h.gr.setCell (by simp only; omega) _⟩
theorem JS.put2 (h : JS w wr gb jb old s0 s1 s2 s3 s4 n SA sc st WA wc Q) (x : Int) : JS w (wr.setCell ⟨jb, 2, none⟩ (.int .i64 x)) gb jb old s0 x s2 s3 s4 n SA sc st WA wc Q := by
  have h1 := h.qs; have h2 := h.glt; have h3 := h.qlt
  have e2 := heap_setCell_same wr jb 2 _ 32 (.int .i64 x) h.b2
  have far : ∀ b, b ≠ jb → (wr.setCell ⟨jb, 2, none⟩ (.int .i64 x)).heap[b]? = wr.heap[b]? := fun b hb => heap_setCell_other _ _ _ _ hb
  exact ⟨(far _ (by omega)).trans h.b0, by rw [e2]; simp, h2, h3, h.own.box fun b hb _ => far b (by omega), h.gr.setCell (by simp only; omega) _⟩
theorem JS.put3 (h : JS w wr gb jb old s0 s1 s2 s3 s4 n SA sc st WA wc Q) (x : Int) : JS w (wr.setCell ⟨jb, 3, none⟩ (.int .i64 x)) gb jb old s0 s1 x s3 s4 n SA sc st WA wc Q := by
  have h1 := h.qs; have h2 := h.glt; have h3 := h.qlt
  have e2 := heap_setCell_same wr jb 3 _ 32 (.int .i64 x) h.b2
  have far : ∀ b, b ≠ jb → (wr.setCell ⟨jb, 3, none⟩ (.int .i64 x)).heap[b]? = wr.heap[b]? := fun b hb => heap_setCell_other _ _ _ _ hb
  exact ⟨(far _ (by omega)).trans h.b0, by rw [e2]; simp, h2, h3, h.own.box fun b hb _ => far b (by omega), h.gr.setCell (by simp only; omega) _⟩
theorem JS.put4 (h : JS w wr gb jb old s0 s1 s2 s3 s4 n SA sc st WA wc Q) (x : Int) : JS w (wr.setCell ⟨jb, 4, none⟩ (.int .i64 x)) gb jb old s0 s1 s2 x s4 n SA sc st WA wc Q := by
  have h1 := h.qs; have h2 := h.glt; have h3 := h.qlt
  have e2 := heap_setCell_same wr jb 4 _ 32 (.int .i64 x) h.b2
  have far : ∀ b, b ≠ jb → (wr.setCell ⟨jb, 4, none⟩ (.int .i64 x)).heap[b]? = wr.heap[b]? := fun b hb => heap_setCell_other _ _ _ _ hb
  exact ⟨(far _ (by omega)).trans h.b0, by rw [e2]; simp, h2, h3, h.own.box fun b hb _ => far b (by omega), h.gr.setCell (by simp only; omega) _⟩
theorem JS.put5 (h : JS w wr gb jb old s0 s1 s2 s3 s4 n SA sc st WA wc Q) (x : Int) : JS w (wr.setCell ⟨jb, 5, none⟩ (.int .i64 x)) gb jb old s0 s1 s2 s3 x n SA sc st WA wc Q := by
  have h1 := h.qs; have h2 := h.glt; have h3 := h.qlt
  have e2 := heap_setCell_same wr jb 5 _ 32 (.int .i64 x) h.b2
  have far : ∀ b, b ≠ jb → (wr.setCell ⟨jb, 5, none⟩ (.int .i64 x)).heap[b]? = wr.heap[b]? := fun b hb => heap_setCell_other _ _ _ _ hb
  exact ⟨(far _ (by omega)).trans h.b0, by rw [e2]; simp, h2, h3, h.own.box fun b hb _ => far b (by omega), h.gr.setCell (by simp only; omega) _⟩
theorem JS.put6 (h : JS w wr gb jb old s0 s1 s2 s3 s4 n SA sc st WA wc Q) (x : Int) : JS w (wr.setCell ⟨jb, 6, none⟩ (.int .i64 x)) gb jb old s0 s1 s2 s3 s4 x SA sc st WA wc Q := by
  have h1 := h.qs; have h2 := h.glt; have h3 := h.qlt
  have e2 := heap_setCell_same wr jb 6 _ 32 (.int .i64 x) h.b2
  have far : ∀ b, b ≠ jb → (wr.setCell ⟨jb, 6, none⟩ (.int .i64 x)).heap[b]? = wr.heap[b]? := fun b hb => heap_setCell_other _ _ _ _ hb
  exact ⟨(far _ (by omega)).trans h.b0, by rw [e2]; simp, h2, h3, ⟨(h.own.box fun b hb _ => far b (by omega)).st, (h.own.box fun b hb _ => far b (by omega)).wv, (h.own.box fun b hb _ => far b (by omega)).ws, (h.own.box fun b hb _ => far b (by omega)).ap⟩, h.gr.setCell (by simp only; omega) _⟩
/-- A range put behind the stash. -/
theorem JS.stash (h : JS w wr gb jb old s0 s1 s2 s3 s4 n SA sc st none 0 []) {W0 w5 : World} (hW : Below wr.heap.size wr W0) {r : R} {SA' : Option Addr} {sc' : Nat} (hown : w5.ownsRow (jb + 1) 74 2 (.slice SA' (st.length + 1) sc') (st.length + 1) (cells st ++ cells [r])) (hg : W0.grownBy w5 (Value.slice SA st.length sc).ownBlock) :
    JS w (w5.setCell ⟨jb, 7, none⟩ (.slice SA' (st.length + 1) sc')) gb jb old s0 s1 s2 s3 s4 n SA' sc' (st ++ [r]) none 0 [] := by
  have h1 := h.qs; have h2 := h.glt; have h3 := h.qlt
  have hin : ∀ b, (Value.slice SA st.length sc).ownBlock = some b → jb + 1 ≤ b := fun b hb => (row_in h.own.st.2 (own_in.1 hb)).1
  have hs := hW.size
  have hb5 : Below (jb + 1) wr w5 := (hW.mono (by omega)).grown hg (by omega) hin
  have e2 := heap_setCell_same w5 jb 7 _ 32 (.slice SA' (st.length + 1) sc') ((hb5.block jb (by omega)).trans h.b2)
  have far : ∀ b, b ≠ jb → (w5.setCell ⟨jb, 7, none⟩ (.slice SA' (st.length + 1) sc')).heap[b]? = w5.heap[b]? := fun b hb => heap_setCell_other _ _ _ _ hb
  refine ⟨(far _ (by omega)).trans ((hb5.block _ (by omega)).trans h.b0), by rw [e2]; simp, h2, h3, ⟨⟨by simp, ?_⟩, OwnW.nil _ _, fun v hv => (by cases hv), fun i j u v b hi => (by simp at hi)⟩, (h.gr.trans (hb5.mono (by omega))).setCell (by simp only; omega) _⟩
  rw [cells_append]
  simp only [List.length_append, List.length_cons, List.length_nil]
  exact row_hi hown (fun b hb _ _ => far b (by omega))
/-- A wave put behind the waves. -/
theorem JS.wave (h : JS w wr gb jb old s0 s1 s2 s3 s4 n SA sc st WA wc Q) {W0 w5 : World} (hW : Below wr.heap.size wr W0) {v : WvV} (hv : OwnV wr (jb + 1) v) (hap : ∀ u ∈ Q, ∀ b, inA v.A b → ¬ inA u.A b) {WA' : Option Addr} {wc' : Nat} (hown : w5.ownsRow (jb + 1) 75 1 (.slice WA' (Q.length + 1) wc') (Q.length + 1) (wvCells Q ++ wvCells [v])) (hg : W0.grownBy w5 (Value.slice WA Q.length wc).ownBlock) :
    JS w (w5.setCell ⟨jb, 8, none⟩ (.slice WA' (Q.length + 1) wc')) gb jb old s0 s1 s2 s3 s4 n SA sc st WA' wc' (Q ++ [v]) := by
  have h1 := h.qs; have h2 := h.glt; have h3 := h.qlt
  have hin : ∀ b, (Value.slice WA Q.length wc).ownBlock = some b → jb + 1 ≤ b := fun b hb => (row_in h.own.wv.2 (own_in.1 hb)).1
  have hs := hW.size
  have hb5 : Below (jb + 1) wr w5 := (hW.mono (by omega)).grown hg (by omega) hin
  have hop : OwnP w5 (jb + 1) ⟨n, SA, sc, st, WA', wc', Q ++ [v]⟩ := OwnP.push h.own hv hap hW hown hg
  have e2 := heap_setCell_same w5 jb 8 _ 32 (.slice WA' (Q.length + 1) wc') ((hb5.block jb (by omega)).trans h.b2)
  have far : ∀ b, b ≠ jb → (w5.setCell ⟨jb, 8, none⟩ (.slice WA' (Q.length + 1) wc')).heap[b]? = w5.heap[b]? := fun b hb => heap_setCell_other _ _ _ _ hb
  exact ⟨(far _ (by omega)).trans ((hb5.block _ (by omega)).trans h.b0), by rw [e2]; simp, h2, h3, hop.box fun b hb _ => far b (by omega), (h.gr.trans (hb5.mono (by omega))).setCell (by simp only; omega) _⟩
end
theorem rdg_grown {w w' : World} {gb n c a : Nat} {A : Option Addr} {l : List Int} {bad : Bool} {row : Option Nat} (h : Rdg w gb A n c a l bad) (hg : w.grownBy w' row) (hr : ∀ b, row = some b → gb < b) : Rdg w' gb A n c a l bad :=
  h.keep fun b hb => hg.block b (by have := h.lt; omega) (fun e => by have := hr b e.symm; omega)
theorem rdg_alloc {w : World} {gb n c a : Nat} {A : Option Addr} {l : List Int} {bad : Bool} (h : Rdg w gb A n c a l bad) (o : Obj) : Rdg (w.alloc o) gb A n c a l bad := h.below ((Below.refl _ _).alloc (Nat.le_refl _) _)
theorem rdg_set {w : World} {gb n c a : Nat} {A : Option Addr} {l : List Int} {bad : Bool} (h : Rdg w gb A n c a l bad) (p : Addr) (v : Value) (hp : gb < p.block) : Rdg (w.setCell p v) gb A n c a l bad :=
  h.keep fun b hb => heap_setCell_other _ _ _ _ (by omega)
end Go.Proofs.YtblibmalommdkaaGreat
