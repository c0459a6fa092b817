/-
  How the arguments of this chapter's statements are opened to their cells: slices of scraps, of parts, of bytes, of numbers.
-/
import Derived.Test.YtblibmalommdkaaGreatRows
import Derived.Test.YtblibmalommdkaaGreatMA
import Derived.Test.YtblibmalommdkaaGreatSA
import Derived.Test.YtblibmalommdkaaGreatRB
import Derived.Deep.Slices
import Derived.Deep.Fields
import Derived.ChangeSame
import Derived.OpenShut
import Derived.ChangeOld
import Derived.SizedLaws
namespace Go.Proofs.YtblibmalommdkaaGreat
open Go.ChangeShapes Go.WideShapes Go.Deep Go.RowKit
section
variable {H : Type} {enc : TypeId × Value → H} {P : Program} {w : World} {base : Nat} {spare : Nat → Bool} {held : Bool}
/-- A slice of structs of one-cell fields, opened to its cells (after the guide's block for such slices). -/
theorem open_slice_fields {t e : TypeId} {fs : Array Field} {fuel : Nat} {cs : List Value} {x : DataW H × List MemPlace} (ht : P.underlying t = some (.slice e)) (he : P.underlying e = some (.struct fs))
    (hone : oneCellFields P fs = true) (hC : P.cellsOf e = fs.size) (h : DataW.trod enc P w base spare held fuel t cs = some x) :
    (cs = [.slice none 0 0] ∧ x = (.nil, [])) ∨
    ∃ (a : Addr) (len cap m : Nat) (D : Nat → DataW H) (Pl : Nat → List MemPlace), cs = [.slice (some a) len cap] ∧ base ≤ a.block ∧ len ≤ cap ∧ cap ≤ maxLen ∧ m = (if spare a.block then cap else len) ∧
      x = (.slice ((List.range len).map D) ((List.range (m - len)).map fun j => D (len + j)), MemPlace.row a (m * fs.size) ++ (List.range m).flatMap Pl) ∧
      ∀ i, i < m → ∃ (ys : List (DataW H × List MemPlace)) (n : Nat), D i = .agg (ys.map (·.1)) ∧ Pl i = ys.flatMap (·.2) ∧ ys.length = fs.size ∧
        ∀ (j : Nat) (f : Field), fs[j]? = some f → ∃ (v : Value) (y : DataW H × List MemPlace), w.cell? (a.add (i * fs.size + j)) = some v ∧ ys[j]? = some y ∧ DataW.trod enc P w base spare held n f.type [v] = some y := by
  rcases open_slice ht h with h0 | ⟨a, len, cap, m, n, D, Pl, hcs, hb, hl, hm, hmm, hx, hi⟩
  · exact .inl h0
  · refine .inr ⟨a, len, cap, m, D, Pl, hcs, hb, hl, hm, hmm, by rw [hC] at hx; exact hx, fun i him => ?_⟩
    obtain ⟨cs', hc, ht'⟩ := hi i him
    rw [hC] at hc
    obtain ⟨ys, n', hn', hy, hlen, hyl, hf⟩ := DataW.trod_struct he ht'
    obtain ⟨_, hcl, hat⟩ := World.cells?_some hc
    simp only [Prod.mk.injEq] at hy
    refine ⟨ys, n', hy.1, hy.2, hyl, fun j f hj => ?_⟩
    obtain ⟨ho, hk⟩ := hone_of hone j f hj
    have hjl : j < fs.size := (Array.getElem?_eq_some_iff.1 hj).1
    have hcell := hat j hjl
    have hv : cs'[j]? = some (cs'[j]'(by omega)) := List.getElem?_eq_getElem (by omega)
    have h1 := hf j f hj
    rw [ho, hk] at h1
    have hone' : (cs'.drop j).take 1 = [cs'[j]'(by omega)] := by
      rw [List.drop_eq_getElem_cons (by omega)]
      rfl
    rw [hone'] at h1
    have hys : ys[j]? = some (ys[j]'(by omega)) := List.getElem?_eq_getElem (by omega)
    refine ⟨_, _, ?_, hys, h1.trans hys⟩
    rw [← Go.Deep.add_add, hcell, hv]
end
theorem laidOut : laidOutB Tryz.prog = true := by kernel_rfl
theorem own : ownKnob Tryz.prog.godebug = none := by kernel_rfl

theorem choose_list {α : Type} (n : Nat) (Q : Nat → α → Prop) (h : ∀ i, i < n → ∃ x, Q i x) : ∃ l : List α, l.length = n ∧ ∀ k x, l[k]? = some x → Q k x := by
  induction n with
  | zero => exact ⟨[], rfl, fun k x hx => by simp at hx⟩
  | succ n ih =>
    obtain ⟨l, hl, hq⟩ := ih (fun i hi => h i (by omega))
    obtain ⟨x, hx⟩ := h n (by omega)
    refine ⟨l ++ [x], by simp [hl], fun k y hy => ?_⟩
    by_cases hk : k < l.length
    · rw [List.getElem?_append_left hk] at hy
      exact hq k y hy
    · rw [List.getElem?_append_right (by omega)] at hy
      have e : k - l.length = 0 := by
        by_cases h0 : k - l.length = 0
        · exact h0
        · rw [List.getElem?_eq_none (by simp; omega)] at hy; cases hy
      rw [e] at hy
      simp at hy; subst hy
      have : k = n := by omega
      subst this
      exact hx
theorem add_off {w : World} {a : Addr} {v : Value} (h : w.cell? (a.add 0) = some v) : ∃ b off, a = ⟨b, off, none⟩ := by
  obtain ⟨b, off, spot⟩ := a
  have hspot : spot = none := by simpa [Addr.add] using World.cell?_spot h
  subst hspot
  exact ⟨b, off, rfl⟩
theorem add_lit' (b off i : Nat) : (⟨b, off, none⟩ : Addr).add i = ⟨b, off + i, none⟩ := by unfold Addr.add; split <;> simp_all

theorem wf_bounds {n : Int} (h : (Lit.int .i64 n).wf = true) : -9223372036854775808 ≤ n ∧ n ≤ 9223372036854775807 := bounds_i64 h
/-- The cells of a slice of scraps. -/
theorem cells_scraps {H : Type} {enc : TypeId × Value → H} {W : World} {base : Nat} {fuel : Nat} {v : Value} {x : DataW H × List MemPlace} (hf : DataW.trod enc Tryz.prog W base (fun _ => true) true fuel 76 [v] = some x) :
    ∃ A len cap, ∃ l : List S, v = .slice A len cap ∧ (A = none → len = 0 ∧ cap = 0) ∧ l.length = len ∧ Sc.Rd W W.heap.size A l ∧ len ≤ cap ∧ cap ≤ maxLen ∧ (∀ s ∈ l, (Lit.int .i64 s.src).wf = true ∧ (Lit.int .i64 s.at_).wf = true ∧ (Lit.int .i64 s.len).wf = true) := by
  rcases open_slice_fields Tryz.underlying76 Tryz.underlying80 (by kernel_rfl) (by kernel_rfl) hf with ⟨hcs, _⟩ | ⟨a, len, cap, m, D, Pl, hcs, _, hl, hm, hmm, _, hi⟩
  · injection hcs with hv
    exact ⟨none, 0, 0, [], hv, fun _ => ⟨rfl, rfl⟩, rfl, Sc.Rd.nil _ _ _, Nat.le_refl _, by decide, fun s hs => by simp at hs⟩
  · injection hcs with hv
    simp at hmm
    obtain ⟨l, hlen, hq⟩ := choose_list len (fun k (s : S) => W.cell? (a.add (k * 3 + 0)) = some (.int .i64 s.src) ∧ W.cell? (a.add (k * 3 + 1)) = some (.int .i64 s.at_) ∧ W.cell? (a.add (k * 3 + 2)) = some (.int .i64 s.len) ∧ (Lit.int .i64 s.src).wf = true ∧ (Lit.int .i64 s.at_).wf = true ∧ (Lit.int .i64 s.len).wf = true) (by
      intro i hil
      obtain ⟨ys, n, _, _, _, hfl⟩ := hi i (by omega)
      obtain ⟨v0, y0, c0, _, t0⟩ := hfl 0 _ rfl
      obtain ⟨v1, y1, c1, _, t1⟩ := hfl 1 _ rfl
      obtain ⟨v2, y2, c2, _, t2⟩ := hfl 2 _ rfl
      obtain ⟨x0, e0, _, w0⟩ := DataW.trod_int Tryz.underlying3 t0
      obtain ⟨x1, e1, _, w1⟩ := DataW.trod_int Tryz.underlying3 t1
      obtain ⟨x2, e2, _, w2⟩ := DataW.trod_int Tryz.underlying3 t2
      simp at e0 e1 e2
      subst e0; subst e1; subst e2
      exact ⟨⟨x0, x1, x2⟩, c0, c1, c2, w0, w1, w2⟩)
    refine ⟨some a, len, cap, l, hv, (fun h => by cases h), hlen, ?_, hl, hm, ?_⟩
    · intro k s hs
      obtain ⟨c0, c1, c2, _⟩ := hq k s hs
      have hk := (List.getElem?_eq_some_iff.1 hs).1
      obtain ⟨s0, hs0⟩ := Sc.get_some l 0 (by omega)
      obtain ⟨b, off, rfl⟩ := add_off (hq 0 s0 hs0).1
      rw [add_lit'] at c0 c1 c2
      have hb : b < W.heap.size := World.block_lt_of_cell? W _ c0
      exact ⟨b, off, rfl, hb, by simpa using c0, by rw [Nat.add_assoc]; exact c1, by rw [Nat.add_assoc]; exact c2⟩
    · intro s hs
      obtain ⟨k, hk⟩ := List.getElem?_of_mem hs
      exact (hq k s hk).2.2.2
/-- A slice of scraps that came in reads as a list. -/
theorem open_scraps {H : Type} {enc : TypeId × Value → H} {W : World} {A : Option Addr} {len cap : Nat} {d : DataW H} {p : List MemPlace} (h : DataW.Trod enc Tryz.prog W 0 (fun _ => true) true 76 (.slice A len cap) d p) :
    ∃ l : List S, l.length = len ∧ Sc.Rd W W.heap.size A l ∧ len ≤ cap ∧ cap ≤ maxLen ∧ (∀ s ∈ l, (Lit.int .i64 s.src).wf = true ∧ (Lit.int .i64 s.at_).wf = true ∧ (Lit.int .i64 s.len).wf = true) ∧ (A = none → len = 0 ∧ cap = 0) := by
  obtain ⟨fuel, hf⟩ := h
  obtain ⟨A', len', cap', l, hv, h1, h2, h3, h4, h5, h6⟩ := cells_scraps (v := .slice A len cap) hf
  injection hv with ha hn hc
  subst ha; subst hn; subst hc
  exact ⟨l, h2, h3, h4, h5, h6, h1⟩
/-- The cells of a slice of parts. -/
theorem cells_bytes {H : Type} {enc : TypeId × Value → H} {W : World} {base : Nat} {spare : Nat → Bool} {held : Bool} {fuel : Nat} {v : Value} {x : DataW H × List MemPlace} (h : DataW.trod enc Tryz.prog W base spare held fuel 22 [v] = some x) :
    ∃ A c, ∃ l : List Int, v = .slice A l.length c ∧ Sc.RdB W W.heap.size A l ∧ l.length ≤ c ∧ c ≤ maxLen ∧ (A = none → c = 0) ∧ ∀ n ∈ l, (Lit.int .u8 n).wf = true := by
  rcases open_ints Tryz.underlying22 Tryz.underlying5 (by kernel_rfl) h with ⟨hcs, _⟩ | ⟨a, len, cap, zs, hcs, _, hl, hm, hz, _, hcell, hwz⟩
  · injection hcs with hv
    exact ⟨none, 0, [], hv, Sc.RdB.nil _ _ _, Nat.le_refl _, by decide, fun _ => rfl, fun n hn => by simp at hn⟩
  · injection hcs with hv
    have hzl : len ≤ zs.length := by rw [hz]; split <;> omega
    refine ⟨some a, cap, zs.take len, ?_, ?_, ?_, hm, (fun h => by cases h), fun n hn => hwz n (List.mem_of_mem_take hn)⟩
    · rw [hv, List.length_take, Nat.min_eq_left hzl]
    · intro k u hu
      rw [List.getElem?_take] at hu
      split at hu
      · have hk := (List.getElem?_eq_some_iff.1 hu).1
        have h0 := hcell 0 (by omega)
        obtain ⟨b, off, rfl⟩ := add_off h0
        have hc := hcell k hk
        rw [add_lit'] at hc
        refine ⟨b, off, rfl, World.block_lt_of_cell? W _ hc, ?_⟩
        rw [hc, List.getD_eq_getElem?_getD, hu]; rfl
      · cases hu
    · rw [List.length_take]; omega
/-- A slice of bytes that came in reads as a list. -/
theorem open_bytes {H : Type} {enc : TypeId × Value → H} {W : World} {A : Option Addr} {len cap : Nat} {d : DataW H} {p : List MemPlace} (h : DataW.Trod enc Tryz.prog W 0 (fun _ => true) true 22 (.slice A len cap) d p) :
    ∃ l : List Int, l.length = len ∧ Sc.RdB W W.heap.size A l ∧ len ≤ cap ∧ cap ≤ maxLen ∧ (A = none → cap = 0) ∧ ∀ n ∈ l, (Lit.int .u8 n).wf = true := by
  obtain ⟨fuel, hf⟩ := h
  obtain ⟨A', c, l, hv, h1, h2, h3, h4, h5⟩ := cells_bytes (v := .slice A len cap) hf
  injection hv with ha hn hc
  subst ha; subst hc
  exact ⟨l, hn.symm, h1, by omega, h3, h4, h5⟩
/-- A slice of numbers that came in reads as a list. -/
theorem open_numbers {H : Type} {enc : TypeId × Value → H} {W : World} {A : Option Addr} {len cap : Nat} {d : DataW H} {p : List MemPlace} (h : DataW.Trod enc Tryz.prog W 0 (fun _ => true) true 109 (.slice A len cap) d p) :
    ∃ l : List Int, l.length = len ∧ RdI W W.heap.size A l ∧ ∀ n ∈ l, I64 n := by
  obtain ⟨fuel, hf⟩ := h
  rcases open_ints Tryz.underlying109 Tryz.underlying3 (by kernel_rfl) hf with ⟨hcs, _⟩ | ⟨a, len, cap, zs, hcs, _, hl, hm, hz, _, hcell, hwz⟩
  · simp [Value.cells] at hcs
    obtain ⟨rfl, rfl, rfl⟩ := hcs
    exact ⟨[], rfl, RdI.nil _ _ _, fun n hn => by simp at hn⟩
  · simp [Value.cells] at hcs
    obtain ⟨rfl, rfl, rfl⟩ := hcs
    have hzl : len ≤ zs.length := by rw [hz]; split <;> omega
    refine ⟨zs.take len, ?_, ?_, fun n hn => bounds_i64 (hwz n (List.mem_of_mem_take hn))⟩
    · rw [List.length_take, Nat.min_eq_left hzl]
    · intro k u hu
      rw [List.getElem?_take] at hu
      split at hu
      · have hk := (List.getElem?_eq_some_iff.1 hu).1
        have h0 := hcell 0 (by omega)
        obtain ⟨b, off, rfl⟩ := add_off h0
        have hc := hcell k hk
        rw [add_lit'] at hc
        refine ⟨b, off, rfl, World.block_lt_of_cell? W _ hc, ?_⟩
        rw [hc, List.getD_eq_getElem?_getD, hu]; rfl
      · cases hu
end Go.Proofs.YtblibmalommdkaaGreat
