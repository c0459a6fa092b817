/-
  Bytes that are being packed, in memory: the journal's box, the row so far.
-/
import Derived.Test.YtblibmalommdkaaGreatRMay
import Derived.Test.YtblibmalommdkaaGreatUPackb
import Derived.Test.YtblibmalommdkaaGreatJPack
namespace Go.Proofs.YtblibmalommdkaaGreat
open Go.RowKit
open Re (OwnB RdB RdI bcells leB leB_length Fits)
/-- What is of no bytes stays. -/
structure Kx (w w' : World) : Prop where
  size : w.heap.size ≤ w'.heap.size
  keep : ∀ (b : Nat) (cs : Array Value) (t : TypeId) (m : Nat × Nat), t ≠ 5 → w.heap[b]? = some (Obj.cells cs t m) → w'.heap[b]? = some (Obj.cells cs t m)
theorem Kx.refl (w : World) : Kx w w := ⟨Nat.le_refl _, fun _ _ _ _ _ h => h⟩
theorem Kx.trans {a b c : World} (h : Kx a b) (g : Kx b c) : Kx a c := ⟨Nat.le_trans h.size g.size, fun x cs t m ht hx => g.keep x cs t m ht (h.keep x cs t m ht hx)⟩
theorem Kx.of {w w' : World} (h : Below w.heap.size w w') : Kx w w' := ⟨h.size, fun b _ _ _ _ hx => (h.block b (Array.getElem?_eq_some_iff.1 hx).1).trans hx⟩
theorem Kx.alloc (w : World) (o : Obj) : Kx w (w.alloc o) := .of ((Below.refl _ _).alloc (Nat.le_refl _) _)
/-- The journal's box, the row so far; nothing else of what was there has turned. -/
structure Pk (w0 w : World) (C : Array Value) (A : Option Addr) (n c : Nat) (l : List Int) : Prop where
  low : Below w0.heap.size w0 w
  box : w.heap[w0.heap.size]? = some (.cells C 32 (0, 0))
  own : OwnB w (w0.heap.size + 1) A n c l
section
variable {w0 w w' : World} {C : Array Value} {A : Option Addr} {n c : Nat} {l : List Int}
theorem Pk.bs (h : Pk w0 w C A n c l) : w0.heap.size + 1 ≤ w.heap.size := (Array.getElem?_eq_some_iff.1 h.box).1
theorem Pk.below (h : Pk w0 w C A n c l) (hb : Below w.heap.size w w') : Pk w0 w' C A n c l :=
  ⟨h.low.trans (hb.mono h.low.size), (hb.block _ h.bs).trans h.box, h.own.below hb (Nat.le_refl _)⟩
theorem Pk.alloc (h : Pk w0 w C A n c l) (o : Obj) : Pk w0 (w.alloc o) C A n c l := h.below ((Below.refl _ _).alloc (Nat.le_refl _) _)
theorem Pk.drew (h : Pk w0 w C A n c l) : Pk w0 w.drew C A n c l := h.below (belowDrewN (Below.refl _ _) 1)
theorem Pk.len (h : Pk w0 w C A n c l) : l.length = n := h.own.1
theorem Pk.cell (h : Pk w0 w C A n c l) (k : Nat) : w.cell? ⟨w0.heap.size, k, none⟩ = C[k]? := cell_of_row _ _ k _ 32 (0, 0) h.box
/-- Behind an append. -/
theorem Pk.app (h : Pk w0 w C A n c l) {m : Nat} {news : List Int} {v' : Value} (hl : news.length = m) (hown : w'.ownsRow (w0.heap.size + 1) 5 1 v' (n + m) (bcells l ++ bcells news)) (hg : w.grownBy w' (Value.slice A n c).ownBlock) :
    ∃ A' c', v' = .slice A' (n + m) c' ∧ Pk w0 w' C A' (n + m) c' (l ++ news) ∧ Kx w w' := by
  obtain ⟨A', c', rfl⟩ := Re.ext_of_ownB hown
  have key : ∀ b, (∀ cs, w.heap[b]? ≠ some (.cells cs 5 (0, 0))) → b < w.heap.size → w'.heap[b]? = w.heap[b]? := fun b hb hlt => hg.block b hlt (fun e => by
    obtain ⟨_, _, cs, hc⟩ := row_in h.own.2 (own_in.1 e.symm)
    exact hb cs hc)
  refine ⟨A', c', rfl, ⟨⟨hg.os.trans h.low.os, hg.tape.trans h.low.tape, hg.output.trans h.low.output, Nat.le_trans h.low.size hg.size, fun k hk => ?_⟩, ?_, ?_⟩, ⟨hg.size, fun b cs t m ht hx => ?_⟩⟩
  · refine (hg.block k (Nat.lt_of_lt_of_le hk h.low.size) (fun e => ?_)).trans (h.low.block k hk)
    have := (row_in h.own.2 (own_in.1 e.symm)).1; omega
  · refine (hg.block _ h.bs (fun e => ?_)).trans h.box
    have := (row_in h.own.2 (own_in.1 e.symm)).1; omega
  · exact ⟨by rw [List.length_append, h.len, hl], by unfold bcells at *; rw [List.map_append]; exact hown⟩
  · refine (key b (fun cs' hc => ?_) (Array.getElem?_eq_some_iff.1 hx).1).trans hx
    rw [hc] at hx
    injection hx with hx
    injection hx with _ h2 _
    exact ht h2.symm
set_option maxRecDepth 100000 in
/-- append to the row, of a row that reads. -/
theorem wp_app {ops : Array Oper} {rest : List Oper} {o : Oper} {a : Act} {Q : Exit → Act → World → Prop} (hgd : o.guard = none) (s x : Operand)
    (ho : o.op = .call { callee := .builtin .append, args := #[s, x], argTypes := #[22, 22] }) (h : Pk w0 w C A n c l) (hs : a.eval s = .slice A n c)
    {A2 : Option Addr} {m c2 : Nat} {news : List Int} (hx : a.eval x = .slice A2 m c2) (hno : A2 = none → m = 0 ∧ c2 = 0) (hl : news.length = m) (hr : RdB w w.heap.size A2 news) (hsz : n + m ≤ 1073741824)
    (hK : ∀ A' c' w', Pk w0 w' C A' (n + m) c' (l ++ news) → Kx w w' → wpList Tryz.prog ops Q rest (a.put o.dst (.slice A' (n + m) c')) w') : wpList Tryz.prog ops Q (o :: rest) a w := by
  obtain ⟨i0, hi, hz0, hz1, hz2⟩ := info_parts Re.info5
  refine Re.wpList_append_any hgd s x 22 ho (w0.heap.size + 1) 5 i0 _ 1 1 Tryz.underlying22 hi hz0 hz1 hz2 rfl (by decide) _ n _ hs h.own.2 A2 m c2 (bcells news) hx hno (by rw [bcells, List.length_map, hl, Nat.mul_one]) hr.cells' (Re.bcells_one _) (by unfold maxLen; omega) (by omega) h.bs ?_
  intro v' w' hown hg
  obtain ⟨A', c', rfl, h1, h2⟩ := h.app hl hown hg
  exact hK A' c' w' h1 h2
theorem fits4 {x : Int} (h : F4 x) : Fits 4 x := .inl ⟨rfl, h.1, h.2⟩
theorem fits1 {x : Int} (h : F1 x) : Fits 1 x := .inr ⟨rfl, h.1, h.2⟩
theorem nums_read {nb : Nat} {ns : List Int} (h : w.heap[nb]? = some (.cells (ns.map (Value.int .i64)).toArray 3 (0, 0))) : RdI w w.heap.size (some ⟨nb, 0, none⟩) ns := by
  intro k v hv
  refine ⟨nb, 0, rfl, (Array.getElem?_eq_some_iff.1 h).1, ?_⟩
  rw [Nat.zero_add, cell_of_row _ _ k _ 3 (0, 0) h]
  simp [hv]
/-- put, to the row. -/
theorem put_pk (h : Pk w0 w C A n c l) (d : Nat) (ns : List Int) (m : Nat) (hm : ns.length = m) (nb : Nat) (hnb : w.heap[nb]? = some (.cells (ns.map (Value.int .i64)).toArray 3 (0, 0))) (hf : ∀ x ∈ ns, Fits d x) (hd1 : 1 ≤ d) (hd : d ≤ 4) (hn : n ≤ 1073741824) (hm2 : m ≤ 2) :
    Calls Tryz.prog 34 #[.slice A n c, .int .i64 (d : Int), .slice (some ⟨nb, 0, none⟩) m m] w fun e w' => ∃ A' c', e = .returned (.slice A' (n + d * m) c') ∧ Pk w0 w' C A' (n + d * m) c' (l ++ ns.flatMap (leB · d)) ∧ Kx w w' := by
  have hA : ∀ b, (some (⟨nb, 0, none⟩ : Addr)).map Addr.block = some b → A.map Addr.block ≠ some b := fun b hb e => by
    simp at hb
    subst hb
    obtain ⟨_, _, cs, hc⟩ := row_in h.own.2 e
    rw [hc] at hnb
    injection hnb with hnb
    injection hnb with _ h2 _
    exact absurd h2 (by decide)
  refine (Re.put_any (w0.heap.size + 1) A n c d (some ⟨nb, 0, none⟩) m m w l ns h.own h.bs hn hd1 hd (by omega) hm (nums_read hnb) hA hf).mono ?_
  rintro e w' ⟨A', c', ⟨rfl, hO, _⟩, hg⟩
  have hg' : w.grownBy w' (Value.slice A n c).ownBlock := by
    have e : (Value.slice A n c).ownBlock = A.map Addr.block := by cases A <;> rfl
    rw [e]; exact hg
  have hlen : (ns.flatMap (leB · d)).length = d * m := by have := hO.1; rw [List.length_append, h.len] at this; omega
  have hown := hO.2
  unfold bcells at hown
  rw [List.map_append] at hown
  obtain ⟨A2, c2, hv, h1, h2⟩ := h.app hlen hown hg'
  injection hv with e1 e2 e3
  subst e1; subst e3
  exact ⟨A', c', rfl, h1, h2⟩
/-- One byte that was just laid. -/
theorem byte_read (w : World) (x y : Int) (h : y = x % 256) : RdB (w.alloc (.cells #[.int .u8 y] 5)) (w.alloc (.cells #[.int .u8 y] 5)).heap.size (some ⟨w.heap.size, 0, none⟩) (leB x 1) := by
  subst h
  intro k v hv
  have hk : k = 0 := by
    have h1 := (List.getElem?_eq_some_iff.1 hv).1
    rw [leB_length] at h1; omega
  subst hk
  have hv' : x % 256 = v := by simpa [Re.leB1] using hv
  subst hv'
  exact ⟨w.heap.size, 0, rfl, by simp, cell_new _ _ _ _⟩
theorem number4 (x : Int) (w : World) (hx : F4 x) :
    Calls Tryz.prog 35 #[.int .i64 x, .int .i64 4] w fun e w' => (∃ g c, e = .returned (.slice (some ⟨g, 0, none⟩) 4 c) ∧ OwnB w' w.heap.size (some ⟨g, 0, none⟩) 4 c (leB x 4)) ∧ Below w.heap.size w w' := by
  exact (Re.number_any x 4 w hx.1 (by have := hx.2; omega) (by decide) (by decide) (by
    have := hx.1; have := hx.2
    show x / 256 / 256 / 256 / 256 = 0
    omega))
theorem put4 (h : Pk w0 w C A n c l) {x : Int} {nb : Nat} (hnb : w.heap[nb]? = some (.cells #[.int .i64 x] 3 (0, 0))) (hx : F4 x) (hn : n ≤ 1073741824) :
    Calls Tryz.prog 34 #[.slice A n c, .int .i64 4, .slice (some ⟨nb, 0, none⟩) 1 1] w fun e w' => ∃ A' c', e = .returned (.slice A' (n + 4) c') ∧ Pk w0 w' C A' (n + 4) c' (l ++ leB x 4) ∧ Kx w w' := by
  refine (put_pk h 4 [x] 1 rfl nb hnb (fun y hy => by rw [List.mem_singleton.1 hy]; exact fits4 hx) (by decide) (by decide) hn (by decide)).mono ?_
  rintro e w' ⟨A', c', rfl, h1, h2⟩
  exact ⟨A', c', rfl, by simpa using h1, h2⟩
theorem put1 (h : Pk w0 w C A n c l) {x : Int} {nb : Nat} (hnb : w.heap[nb]? = some (.cells #[.int .i64 x] 3 (0, 0))) (hx : F1 x) (hn : n ≤ 1073741824) :
    Calls Tryz.prog 34 #[.slice A n c, .int .i64 1, .slice (some ⟨nb, 0, none⟩) 1 1] w fun e w' => ∃ A' c', e = .returned (.slice A' (n + 1) c') ∧ Pk w0 w' C A' (n + 1) c' (l ++ leB x 1) ∧ Kx w w' := by
  refine (put_pk h 1 [x] 1 rfl nb hnb (fun y hy => by rw [List.mem_singleton.1 hy]; exact fits1 hx) (by decide) (by decide) hn (by decide)).mono ?_
  rintro e w' ⟨A', c', rfl, h1, h2⟩
  exact ⟨A', c', rfl, by simpa using h1, h2⟩
theorem put44 (h : Pk w0 w C A n c l) {x y : Int} {nb : Nat} (hnb : w.heap[nb]? = some (.cells #[.int .i64 x, .int .i64 y] 3 (0, 0))) (hx : F4 x) (hy : F4 y) (hn : n ≤ 1073741824) :
    Calls Tryz.prog 34 #[.slice A n c, .int .i64 4, .slice (some ⟨nb, 0, none⟩) 2 2] w fun e w' => ∃ A' c', e = .returned (.slice A' (n + 8) c') ∧ Pk w0 w' C A' (n + 8) c' (l ++ (leB x 4 ++ leB y 4)) ∧ Kx w w' := by
  refine (put_pk h 4 [x, y] 2 rfl nb hnb (fun z hz => ?_) (by decide) (by decide) hn (by decide)).mono ?_
  · rcases List.mem_cons.1 hz with rfl | hz
    · exact fits4 hx
    · rw [List.mem_singleton.1 hz]; exact fits4 hy
  · rintro e w' ⟨A', c', rfl, h1, h2⟩
    exact ⟨A', c', rfl, by simpa using h1, h2⟩
theorem alloc_at (w : World) (o : Obj) (k : Nat) (h : k = w.heap.size) : (w.alloc o).heap[k]? = some o := by rw [h]; exact heap_alloc_new w o
/-- put, to no row. -/
theorem put4_nil (h : Pk w0 w C none 0 0 []) {x : Int} {nb : Nat} (hnb : w.heap[nb]? = some (.cells #[.int .i64 x] 3 (0, 0))) (hx : F4 x) :
    Calls Tryz.prog 34 #[.slice none 0 0, .int .i64 4, .slice (some ⟨nb, 0, none⟩) 1 1] w fun e w' => (∃ A' c', e = .returned (.slice A' 4 c') ∧ Pk w0 w' C A' 4 c' (leB x 4)) ∧ Below w.heap.size w w' := by
  refine (Re.put_any (w0.heap.size + 1) none 0 0 4 (some ⟨nb, 0, none⟩) 1 1 w [] [x] h.own h.bs (by decide) (by decide) (by decide) (by decide) rfl (nums_read hnb) (fun b _ e => by cases e) (fun y hy => by rw [List.mem_singleton.1 hy]; exact fits4 hx)).mono ?_
  rintro e w' ⟨A', c', ⟨rfl, hO, _⟩, hg⟩
  have hb : Below w.heap.size w w' := ⟨hg.os, hg.tape, hg.output, hg.size, fun k hk => hg.block k hk (by simp)⟩
  have hO' : OwnB w' (w0.heap.size + 1) A' 4 c' (leB x 4) := by simpa using hO
  have h2 := h.below hb
  exact ⟨⟨A', c', rfl, ⟨h2.low, h2.box, hO'⟩⟩, hb⟩
theorem alloc_at2 (w : World) (o o2 : Obj) (k : Nat) (h : k = w.heap.size) : ((w.alloc o).alloc o2).heap[k]? = some o := by
  rw [h]; exact (heap_alloc_old _ _ (by simp)).trans (heap_alloc_new w o)
theorem alloc_at3 (w : World) (o o2 o3 : Obj) (k : Nat) (h : k = w.heap.size) : (((w.alloc o).alloc o2).alloc o3).heap[k]? = some o := by
  exact (heap_alloc_old _ _ (by rw [h]; simp; omega)).trans (alloc_at2 w o o2 k h)
theorem row_drew {k : Nat} {x : Option Obj} (h : w.heap[k]? = x) : w.drew.heap[k]? = x := h
theorem row_al {k : Nat} {cs : Array Value} {t : TypeId} {m : Nat × Nat} (h : w.heap[k]? = some (.cells cs t m)) (o : Obj) : (w.alloc o).heap[k]? = some (.cells cs t m) :=
  (((Below.refl w.heap.size w).alloc (Nat.le_refl _) o).block _ (Array.getElem?_eq_some_iff.1 h).1).trans h
theorem box2_of {xk : Nat} {a b : Value} {t : TypeId} (h : w.heap[xk]? = some (.cells #[a, b] t (0, 0))) : w.cell? ⟨xk, 0, none⟩ = some a ∧ w.cell? ⟨xk, 1, none⟩ = some b ∧ w.heap[xk]? = some (.cells #[a, b] t (0, 0)) :=
  ⟨cell_of_row _ _ 0 _ t (0, 0) h, cell_of_row _ _ 1 _ t (0, 0) h, h⟩
theorem box3_of {xk : Nat} {a b d : Value} {t : TypeId} (h : w.heap[xk]? = some (.cells #[a, b, d] t (0, 0))) : w.cell? ⟨xk, 0, none⟩ = some a ∧ w.cell? ⟨xk, 1, none⟩ = some b ∧ w.cell? ⟨xk, 2, none⟩ = some d ∧ w.heap[xk]? = some (.cells #[a, b, d] t (0, 0)) :=
  ⟨cell_of_row _ _ 0 _ t (0, 0) h, cell_of_row _ _ 1 _ t (0, 0) h, cell_of_row _ _ 2 _ t (0, 0) h, h⟩
end
end Go.Proofs.YtblibmalommdkaaGreat
