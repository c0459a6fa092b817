/-
  Blocks that are put about, and put back; plain. And rows of numbers that are set.
-/
import Derived.Test.YteceephenfmdoaaNRun
import Derived.Test.YteceephenfmdoaaKRun
namespace Go.Proofs.Yteceephenfmdoaa
open Go.RowKit
theorem OwnI.setAt {w : World} {base g n c : Nat} {l : List Int} (h : OwnI w base (some ⟨g, 0, Option.none⟩) n c l) {i : Nat} (_hi : i < n) (x : Int) : OwnI (w.setCell ⟨g, i, Option.none⟩ (.int .i64 x)) base (some ⟨g, 0, Option.none⟩) n c (l.set i x) := by
  have h1 := (h.2.stored i (.int .i64 x)).1
  refine ⟨by rw [List.length_set]; exact h.1, ?_⟩
  have e : (icells l).set i (.int .i64 x) = icells (l.set i x) := by simp [icells]
  rw [← e]
  exact h1
/-- 'make([]int, n)'. -/
theorem make_ints (n : Nat) (N : Int) (hN : N = (n : Int)) (hn : n ≤ 1048576) (B : Nat) (W : World) (hB : B ≤ W.heap.size) : ∃ Z : Array Value, (Instr.makeSlice 71 (.int .i64 N) (.int .i64 N)).run Try.prog W = .ok (.slice (some ⟨W.heap.size, 0, none⟩) n n) (W.alloc (.cells Z 3)) ∧ OwnI (W.alloc (.cells Z 3)) B (some ⟨W.heap.size, 0, none⟩) n n (List.replicate n 0) := by
  subst hN
  obtain ⟨i0, hi, hz0, hz1, hz2⟩ := info_parts info3
  have h := run_makeSlice (P := Try.prog) (w := W) 71 3 i0 (.int .i64 0) (by kernel_rfl) hi hz0 .i64 .i64 (n : Int) (n : Int) (by omega) (by omega) (by rw [hz1]; simp; omega) (by rw [hz2]; omega) (by omega)
  rw [hz1] at h
  have hs : (madeCells (Value.int .i64 0).cells (n * 1)).size = n := by simp [madeCells]
  have hk : ∀ k, k < n → (madeCells (Value.int .i64 0).cells (n * 1))[k]? = some (.int .i64 0) := fun k hk => by simp [madeCells, hk, Value.cells, Nat.mod_one]
  refine ⟨madeCells (Value.int .i64 0).cells (n * 1), by simpa using h, by simp, ?_⟩
  refine ⟨by simp [icells], .inr ⟨W.heap.size, n, madeCells (Value.int .i64 0).cells (n * 1), rfl, hB, heap_alloc_new W _, Nat.le_refl _, by unfold maxLen; omega, by rw [hs]; omega, ?_⟩⟩
  apply List.ext_getElem?
  intro i
  rw [icells_get]
  by_cases h1 : i < n
  · rw [List.getElem?_take_of_lt (by omega), Array.getElem?_toList, hk i h1, List.getElem?_replicate, if_pos h1]; rfl
  · rw [List.getElem?_eq_none (by simp only [List.length_take, Array.length_toList, hs]; omega), List.getElem?_replicate, if_neg h1]; rfl
def nats (P : List Nat) : List Int := P.map fun (i : Nat) => (i : Int)
theorem nats_len (P : List Nat) : (nats P).length = P.length := by simp [nats]
theorem nats_get {P : List Nat} {k x : Nat} (h : P[k]? = some x) : (nats P)[k]? = some (x : Int) := by simp [nats, h]
theorem nats_set (P : List Nat) (k x : Nat) : (nats P).set k (x : Int) = nats (P.set k x) := by simp [nats]
theorem nats_snoc (P : List Nat) (x : Nat) : nats P ++ [(x : Int)] = nats (P ++ [x]) := by simp [nats]
theorem nats_zero (n : Nat) : List.replicate n (0 : Int) = nats (List.replicate n 0) := by simp [nats]
/-- Places that are put about. -/
def Put (P : List Nat) (n : Nat) : Prop := P.Perm (List.range n)
theorem Put.len {P : List Nat} {n : Nat} (h : Put P n) : P.length = n := by rw [h.length_eq, List.length_range]
theorem Put.lt {P : List Nat} {n : Nat} (h : Put P n) {k x : Nat} (hk : P[k]? = some x) : x < n := List.mem_range.1 (h.mem_iff.1 (List.mem_of_getElem? hk))
theorem Put.swap {P : List Nat} {n : Nat} (h : Put P n) {i k x y : Nat} (hi : P[i]? = some x) (hk : P[k]? = some y) : Put ((P.set i y).set k x) n := by
  obtain ⟨h1, rfl⟩ := List.getElem?_eq_some_iff.1 hi
  obtain ⟨h2, rfl⟩ := List.getElem?_eq_some_iff.1 hk
  exact (List.set_set_perm h1 h2).trans h
theorem Put.inj {P : List Nat} {n : Nat} (h : Put P n) {i k x : Nat} (hi : P[i]? = some x) (hk : P[k]? = some x) : i = k := by
  have hd : P.Nodup := h.nodup_iff.2 List.nodup_range
  have h1 := (List.getElem?_eq_some_iff.1 hi).1
  exact (List.getElem?_inj h1 hd).1 (hi.trans hk.symm)
theorem Put.onto {P : List Nat} {n : Nat} (h : Put P n) {x : Nat} (hx : x < n) : ∃ i, i < n ∧ P[i]? = some x := by
  obtain ⟨i, hi⟩ := List.getElem?_of_mem (h.mem_iff.2 (List.mem_range.2 hx))
  exact ⟨i, by have := (List.getElem?_eq_some_iff.1 hi).1; rw [h.len] at this; exact this, hi⟩
/-- What tells the way back of the first k. -/
def Bk (P B : List Nat) (n k : Nat) : Prop := B.length = n ∧ ∀ i p, i < k → P[i]? = some p → B[p]? = some i
theorem Bk.zero (P : List Nat) (n : Nat) : Bk P (List.replicate n 0) n 0 := ⟨List.length_replicate, fun i p h => by omega⟩
theorem Bk.next {P B : List Nat} {n k p : Nat} (hP : Put P n) (h : Bk P B n k) (hp : P[k]? = some p) : Bk P (B.set p k) n (k + 1) := by
  have hpn := hP.lt hp
  refine ⟨by rw [List.length_set]; exact h.1, fun i q hi hq => ?_⟩
  rw [List.getElem?_set]
  by_cases e : p = q
  · subst e
    have := hP.inj hp hq
    subst this
    rw [if_pos rfl, if_pos (by rw [h.1]; exact hpn)]
  · rw [if_neg e]
    refine h.2 i q ?_ hq
    by_cases e2 : i = k
    · subst e2; rw [hp] at hq; injection hq with hq; exact (e hq).elim
    · omega
theorem Bk.back {P B : List Nat} {n : Nat} (hP : Put P n) (h : Bk P B n n) {j : Nat} (hj : j < n) : ∃ i, i < n ∧ B[j]? = some i ∧ P[i]? = some j := by
  obtain ⟨i, hi, hpi⟩ := hP.onto hj
  exact ⟨i, hi, h.2 i j hi hpi, hpi⟩
/-- Blocks as a list of scraps. -/
def blkL (P : List Nat) : List S := P.map fun (i : Nat) => ⟨0, 64 * (i : Int), 64⟩
theorem blkL_snoc (P : List Nat) (x : Nat) : blkL P ++ [⟨0, 64 * (x : Int), 64⟩] = blkL (P ++ [x]) := by simp [blkL]
theorem blkL_tot (P : List Nat) : Sc.tot (blkL P) = 64 * (P.length : Int) := by
  induction P with
  | nil => rfl
  | cons a P ih =>
    have e : blkL (a :: P) = ⟨0, 64 * (a : Int), 64⟩ :: blkL P := rfl
    rw [e, Sc.tot, ih, List.length_cons]
    show (64 : Int) + _ = _
    omega
theorem blkL_mem {P : List Nat} {s : S} (h : s ∈ blkL P) : ∃ k x : Nat, P[k]? = some x ∧ s = ⟨0, 64 * (x : Int), 64⟩ := by
  obtain ⟨x, hx, rfl⟩ := List.mem_map.1 h
  obtain ⟨k, hk⟩ := List.getElem?_of_mem hx
  exact ⟨k, x, hk, rfl⟩
theorem blkL_target {P : List Nat} {n : Nat} (hn : n ≤ 30) (hl : P.length = n) (hP : ∀ k x : Nat, P[k]? = some x → x < n) : TargetP (blkL P) ((64 * n : Nat) : Int) := by
  refine ⟨⟨fun s hs => ?_, by rw [blkL_tot]; omega⟩, fun s hs => ?_⟩
  · obtain ⟨k, x, hk, rfl⟩ := blkL_mem hs
    have := hP k x hk
    unfold Sc.okS; simp only; omega
  · obtain ⟨k, x, hk, rfl⟩ := blkL_mem hs
    have := hP k x hk
    exact ⟨by simp, fun _ => by simp only; omega⟩
theorem blkL_src {P : List Nat} {n : Int} : ∀ s ∈ blkL P, s.src = 1 → s.at_ + s.len ≤ n := fun s hs h => by
  obtain ⟨k, x, hk, rfl⟩ := blkL_mem hs
  simp at h
def blkO (f : List Int) (i : Nat) : List Int := (f.drop (64 * i)).take 64
theorem blkO_len {f : List Int} {n i : Nat} (hf : f.length = 64 * n) (hi : i < n) : (blkO f i).length = 64 := by
  unfold blkO; rw [List.length_take, List.length_drop]; omega
theorem want_blk (P : List Nat) (f : List Int) : wantB (blkL P) f [] = P.flatMap (blkO f) := by
  unfold wantB blkL Sc.textB
  rw [List.flatMap_map]
  congr 1
theorem flat_blk {f : List Int} {n : Nat} (hf : f.length = 64 * n) : ∀ (P : List Nat), (∀ x ∈ P, x < n) → (P.flatMap (blkO f)).length = 64 * P.length ∧ ∀ (k x : Nat), P[k]? = some x → blkO (P.flatMap (blkO f)) k = blkO f x := by
  intro P
  induction P with
  | nil => intro _; exact ⟨rfl, fun k x h => by simp at h⟩
  | cons a P ih =>
    intro h
    obtain ⟨h1, h2⟩ := ih (fun x hx => h x (by simp [hx]))
    have la := blkO_len hf (h a (by simp))
    refine ⟨by rw [List.flatMap_cons, List.length_append, la, h1, List.length_cons]; omega, fun k x hk => ?_⟩
    rw [List.flatMap_cons]
    cases k with
    | zero =>
      simp at hk; subst hk
      unfold blkO at la ⊢
      rw [Nat.mul_zero, List.drop_zero, List.take_append_of_le_length (by rw [la]; exact Nat.le_refl _), List.take_of_length_le (by rw [la]; exact Nat.le_refl _)]
    | succ k =>
      simp at hk
      rw [← h2 k x hk]
      unfold blkO
      have : 64 * (k + 1) = (blkO f a).length + 64 * k := by rw [la]; omega
      unfold blkO at this
      rw [this, List.drop_append, List.drop_eq_nil_of_le (by omega), List.nil_append, Nat.add_sub_cancel_left]
theorem all_blk {f : List Int} : ∀ (n : Nat), f.length = 64 * n → (List.range n).flatMap (blkO f) = f := by
  intro n hf
  have key : ∀ k, k ≤ n → (List.range k).flatMap (blkO f) = f.take (64 * k) := by
    intro k
    induction k with
    | zero => intro _; simp
    | succ k ih =>
      intro hk
      rw [List.range_succ, List.flatMap_append, ih (by omega), List.flatMap_cons, List.flatMap_nil, List.append_nil]
      have : 64 * (k + 1) = 64 * k + 64 := by omega
      rw [this, List.take_add]
      rfl
  rw [key n (Nat.le_refl _), List.take_of_length_le (by omega)]
/-- Blocks that are put about and put back. -/
theorem turned_plain {P B : List Nat} {n : Nat} (hP : Put P n) (hB : Bk P B n n) {f : List Int} (hf : f.length = 64 * n) : wantB (blkL B) (wantB (blkL P) f []) [] = f := by
  obtain ⟨h1, h2⟩ := flat_blk hf P (fun x hx => List.mem_range.1 (hP.mem_iff.1 hx))
  rw [want_blk, want_blk]
  have e : B.flatMap (blkO (P.flatMap (blkO f))) = (List.range n).flatMap (blkO f) := by
    rw [List.flatMap_def, List.flatMap_def]
    congr 1
    apply List.ext_getElem?
    intro j
    rw [List.getElem?_map, List.getElem?_map]
    by_cases hj : j < n
    · obtain ⟨i, hi, hb, hp⟩ := hB.back hP hj
      rw [hb, List.getElem?_range hj]
      simp only [Option.map_some, Option.some.injEq]
      exact h2 i j hp
    · rw [List.getElem?_eq_none (by rw [hB.1]; omega), List.getElem?_eq_none (by rw [List.length_range]; omega)]; rfl
  rw [e, all_blk n hf]
end Go.Proofs.Yteceephenfmdoaa
