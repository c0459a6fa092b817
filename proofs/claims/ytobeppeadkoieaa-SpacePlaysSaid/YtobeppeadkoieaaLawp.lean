/-
  Calls in memory; does of any call; the beginning of the two; what is taken and given back, plain.
-/
import Derived.Test.YtobeppeadkoieaaDoesc
namespace Go.Proofs.Ytobeppeadkoieaa
open Go.RowKit
structure CallV where
  kind : Int
  no : Int
  L : Option Addr
  n : Nat
  cl : Nat
  l : List Int
/-- A slice of calls that reads as a list. -/
def RdC (w : World) (B : Nat) (A : Option Addr) (cs : List CallV) : Prop :=
  ∀ k x, cs[k]? = some x → ∃ b off, A = some ⟨b, off, none⟩ ∧ b < B ∧ w.cell? ⟨b, off + k * 3, none⟩ = some (.int .i64 x.kind) ∧ w.cell? ⟨b, off + k * 3 + 1, none⟩ = some (.int .i64 x.no) ∧ w.cell? ⟨b, off + k * 3 + 2, none⟩ = some (.slice x.L x.n x.cl) ∧
    I64 x.kind ∧ I64 x.no ∧ x.l.length = x.n ∧ x.n ≤ 9223372036854775807 ∧ RdI w B x.L x.l ∧ (∀ v ∈ x.l, I64 v) ∧ (x.L = none → x.n = 0 ∧ x.cl = 0)
theorem RdC.below {w w' : World} {B B' : Nat} {A : Option Addr} {cs : List CallV} (h : RdC w B A cs) (hb : Below B' w w') (hB : B ≤ B') : RdC w' B A cs := by
  intro k x hx
  obtain ⟨b, off, e, h1, h2, h3, h4, h5, h6, h7, h8, h9, h10, h11⟩ := h k x hx
  exact ⟨b, off, e, h1, (hb.cell (p := ⟨b, off + k * 3, none⟩) (show b < B' by omega)).trans h2, (hb.cell (p := ⟨b, off + k * 3 + 1, none⟩) (show b < B' by omega)).trans h3, (hb.cell (p := ⟨b, off + k * 3 + 2, none⟩) (show b < B' by omega)).trans h4, h5, h6, h7, h8, h9.below hb hB, h10, h11⟩
section
variable {w : World} {B sb bu bw p : Nat} {res : Int} {M : Nat}
theorem does_any (h : St w B sb bu bw p res M) (hM : M ≤ 900000) (kind no : Int) (hno : I64 no) (L : Option Addr) (n cl : Nat) (l : List Int) (hl : l.length = n) (hn : n ≤ 40) (hr : RdI w B L l) (hi : ∀ v ∈ l, I64 v) (hnone : L = none → n = 0 ∧ cl = 0) :
    Calls Try.prog 9 #[.pointer (some ⟨sb, 0, none⟩), .pointer (some ⟨p, 0, none⟩), .agg #[.int .i64 kind, .int .i64 no, .slice L n cl]] w fun e w' => e = .returned (.bool true) ∧ St w' B sb bu bw p res (M+40) ∧ Below B w w' := by
  by_cases h1 : kind = 1
  · subst h1
    exact (does_take h hM no L n cl).mono fun e w' ⟨a, b, c⟩ => ⟨a, b.more (by omega), c⟩
  · by_cases h2 : kind = 2
    · subst h2
      exact (does_free h hM no hno L n cl).mono fun e w' ⟨a, b, c⟩ => ⟨a, b.more (by omega), c⟩
    · by_cases h3 : kind = 3
      · subst h3
        exact (does_settle h no L n cl).mono fun e w' ⟨a, b, c⟩ => ⟨a, b.more (by omega), c⟩
      · by_cases h4 : kind = 4
        · subst h4
          exact does_keep h hM no L n cl l hl hn hr hi hnone
        · by_cases h5 : kind = 5
          · subst h5
            exact (does_back h hM no L n cl).mono fun e w' ⟨a, b, c⟩ => ⟨a, b.more (by omega), c⟩
          · exact (does_other h kind no L n cl h1 h2 h3 h4 h5).mono fun e w' ⟨a, b, c⟩ => ⟨a, b.more (by omega), c⟩
end
/-- The two at their beginning. -/
theorem st_new {w : World} {B sb bu bw : Nat} {res : Int} (h : Sp w sb bu bw res (fun _ => false) (fun _ => false) none 0 [] 0) (hB : B ≤ bu) (r0 : 0 ≤ res) (r1 : res ≤ 1048576) :
    St (w.alloc (.cells #[.int .i64 res, .slice none 0 0, .slice none 0 0, .slice none 0 0] 32)) B sb bu bw w.heap.size res 0 := by
  have hb : Below w.heap.size w (w.alloc (.cells #[.int .i64 res, .slice none 0 0, .slice none 0 0, .slice none 0 0] 32)) := (Below.refl _ _).alloc (Nat.le_refl _) _
  have l1 := h.l1; have l2 := h.l2; have lt := h.lt
  have hfz : ∀ i, (w.alloc (.cells #[.int .i64 res, .slice none 0 0, .slice none 0 0, .slice none 0 0] 32)).frozen? ⟨w.heap.size, i, none⟩ = false := fun i => by
    unfold World.frozen?; rw [heap_alloc_new]; simp
  refine ⟨_, _, none, 0, [], [], [], [], 0, fun b => B ≤ b ∧ b < w.heap.size, fun b => b = w.heap.size, ⟨h.stays hb.size (fun b hlt _ => hb.block b hlt), ⟨none, 0, none, 0, none, 0, ?_⟩, fun b hS => ?_, fun b hS => ?_, fun b hR => by omega, fun b hS hR => by omega⟩, ?_⟩
  · exact ⟨by rw [cell_new]; rfl, by rw [cell_new]; rfl, by rw [cell_new]; rfl, by rw [cell_new]; rfl, hfz 1, hfz 2, hfz 3, RdI.nil _ _ _, RdI.nil _ _ _, RdI.nil _ _ _, by simp, .inr rfl, rfl, fun b hb => absurd hb inA_none, fun b hb => absurd hb inA_none, fun b hb => absurd hb inA_none, fun b hb => absurd hb inA_none, fun b hb => by simp; omega⟩
  · rcases hS with hS | hS
    · omega
    · exact absurd hS inA_none
  · simp; omega
  · exact ⟨rfl, fun x => by simp, fun x => by simp, List.Pairwise.nil, List.Pairwise.nil, fun x hx => absurd hx List.not_mem_nil, fun x hx => absurd hx List.not_mem_nil, fun x hx => absurd hx List.not_mem_nil, Nat.le_refl _, Nat.le_refl _, Nat.le_refl _, Nat.le_refl _, r0, r1⟩
/-! ### Taken and given back -/
def uF (u : Int → Bool) (F : List Int) : Int → Bool := fun x => u x || decide (x ∈ F)
theorem uF_nil (u : Int → Bool) : uF u [] = u := by funext x; simp [uF]
theorem uF_snoc (u : Int → Bool) (F : List Int) (j : Int) : upd (uF u F) j true = uF u (F ++ [j]) := by
  funext x
  by_cases e : x = j
  · subst e; simp [upd, uF]
  · simp [upd, uF, e]
theorem back_F (u : Int → Bool) (G : List Int) : ∀ P : List Int, Ris G → (∀ x ∈ G, u x = false) → G.foldl bstep (uF u G, P) = (u, P ++ G) := by
  induction G with
  | nil => intro P _ _; simp [uF_nil]
  | cons g G ih =>
    intro P hr hu
    have hr' := List.pairwise_cons.1 hr
    have hg : uF u (g :: G) g = true := by simp [uF]
    rw [List.foldl_cons]
    have e : bstep (uF u (g :: G), P) g = (uF u G, P ++ [g]) := by
      unfold bstep
      rw [if_pos (by simpa using hg)]
      congr 1
      funext x
      by_cases e : x = g
      · subst e
        have h1 : x ∉ G := fun h => by have := hr'.1 x h; omega
        simp [upd, uF, hu x (by simp), h1]
      · simp [upd, uF, e]
    rw [e, ih (P ++ [g]) hr'.2 (fun x hx => hu x (by simp [hx])), List.append_assoc]; rfl
theorem sortI_ris {F : List Int} (h : Ris F) : sortI F = F :=
  ris_eq (sorted_ris (h.imp fun a => by omega)) h fun x => by unfold sortI; rw [List.mem_mergeSort]
/-- What was taken so far. -/
structure Tk (res : Int) (u wt : Int → Bool) (F : List Int) : Prop where
  ris : Ris F
  inn : ∀ x ∈ F, res ≤ x ∧ x < 1048576
  nu : ∀ x ∈ F, u x = false ∧ wt x = false
  low : ∀ x ∈ F, ∀ i, res ≤ i → i ≤ x → uF u F i = true ∨ wt i = true
  first : ∀ x, F[0]? = some x → ∀ i, res ≤ i → i < x → u i = true ∨ wt i = true
theorem Tk.nil (res : Int) (u wt : Int → Bool) : Tk res u wt [] := ⟨List.Pairwise.nil, fun x hx => absurd hx List.not_mem_nil, fun x hx => absurd hx List.not_mem_nil, fun x hx => absurd hx List.not_mem_nil, fun x hx => by simp at hx⟩
theorem Tk.snoc {res : Int} {u wt : Int → Bool} {F : List Int} (h : Tk res u wt F) (j : Int) (j0 : res ≤ j) (j1 : j < 1048576) (ju : uF u F j = false) (jw : wt j = false) (jl : ∀ i, res ≤ i → i < j → uF u F i = true ∨ wt i = true) : Tk res u wt (F ++ [j]) ∧ ∀ x ∈ F, x < j := by
  have hjF : j ∉ F := fun hj => by simp [uF, hj] at ju
  have hju : u j = false := by
    cases hu : u j with
    | false => rfl
    | true => simp [uF, hu] at ju
  have hlt : ∀ x ∈ F, x < j := fun x hx => by
    by_cases h1 : x < j
    · exact h1
    · exfalso
      rcases h.low x hx j j0 (by omega) with h2 | h2
      · rw [ju] at h2; cases h2
      · rw [jw] at h2; cases h2
  refine ⟨⟨?_, fun x hx => ?_, fun x hx => ?_, fun x hx i h0 h1 => ?_, fun x hx i h0 h1 => ?_⟩, hlt⟩
  · unfold Ris
    rw [List.pairwise_append]
    exact ⟨h.ris, by simp, fun a ha b hb => by rw [List.mem_singleton] at hb; subst hb; exact hlt a ha⟩
  · rcases List.mem_append.1 hx with hx | hx
    · exact h.inn x hx
    · rw [List.mem_singleton] at hx; subst hx; exact ⟨j0, j1⟩
  · rcases List.mem_append.1 hx with hx | hx
    · exact h.nu x hx
    · rw [List.mem_singleton] at hx; subst hx; exact ⟨hju, jw⟩
  · rw [← uF_snoc]
    by_cases e : i = j
    · subst e; exact .inl (upd_same _ _ _)
    · rw [upd_other _ _ e]
      rcases List.mem_append.1 hx with hx | hx
      · exact h.low x hx i h0 h1
      · rw [List.mem_singleton] at hx; subst hx
        exact jl i h0 (by omega)
  · cases F with
    | nil =>
      simp at hx
      subst hx
      have := jl i h0 h1
      rwa [uF_nil] at this
    | cons y F => exact h.first x (by simpa using hx) i h0 h1
end Go.Proofs.Ytobeppeadkoieaa
