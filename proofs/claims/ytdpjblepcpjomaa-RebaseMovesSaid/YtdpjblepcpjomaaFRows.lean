/-
  Slices of runs in memory: read, owned. No program in sight.
-/
import Derived.Test.YtdpjblepcpjomaaPMove
import Derived.Test.YtdpjblepcpjomaaRBase
namespace Go.Proofs.Ytdpjblepcpjomaa.Rb
open Go.RowKit
def fcells (l : List Fd) : List Value := l.flatMap fun s => [.int .i64 s.src, .int .i64 s.fr, .int .i64 s.to_, .int .i64 s.at_]
theorem fcells_len (l : List Fd) : (fcells l).length = l.length * 4 := by
  induction l with
  | nil => rfl
  | cons a l ih => simp only [fcells, List.flatMap_cons, List.length_append] at ih ⊢; simp [ih]; omega
theorem fcells_append (l m : List Fd) : fcells (l ++ m) = fcells l ++ fcells m := by simp [fcells]
theorem fcells_cons (s : Fd) (l : List Fd) : fcells (s :: l) = .int .i64 s.src :: .int .i64 s.fr :: .int .i64 s.to_ :: .int .i64 s.at_ :: fcells l := rfl
theorem fcells_one (s : Fd) : fcells [s] = [.int .i64 s.src, .int .i64 s.fr, .int .i64 s.to_, .int .i64 s.at_] := rfl
theorem fcells_get (l : List Fd) (k : Nat) (s : Fd) (h : l[k]? = some s) :
    (fcells l)[k*4]? = some (.int .i64 s.src) ∧ (fcells l)[k*4+1]? = some (.int .i64 s.fr) ∧ (fcells l)[k*4+2]? = some (.int .i64 s.to_) ∧ (fcells l)[k*4+3]? = some (.int .i64 s.at_) := by
  induction l generalizing k with
  | nil => simp at h
  | cons a l ih =>
    cases k with
    | zero => simp at h; subst h; simp [fcells_cons]
    | succ k =>
      simp at h
      obtain ⟨h0, h1, h2, h3⟩ := ih k h
      rw [fcells_cons]
      have e : (k+1)*4 = k*4+1+1+1+1 := by omega
      rw [e]
      exact ⟨by simpa using h0, by simpa using h1, by simpa using h2, by simpa using h3⟩
theorem fcells_one_cell (l : List Fd) : ∀ u ∈ fcells l, u.oneCell' = true := by
  intro u hu
  unfold fcells at hu
  obtain ⟨s, _, h⟩ := List.mem_flatMap.1 hu
  simp at h
  rcases h with rfl | rfl | rfl | rfl <;> rfl
def RdF (w : World) (B : Nat) (A : Option Addr) (l : List Fd) : Prop :=
  ∀ k s, l[k]? = some s → ∃ b off, A = some ⟨b, off, none⟩ ∧ b < B ∧ w.cell? ⟨b, off + k * 4, none⟩ = some (.int .i64 s.src) ∧ w.cell? ⟨b, off + k * 4 + 1, none⟩ = some (.int .i64 s.fr) ∧ w.cell? ⟨b, off + k * 4 + 2, none⟩ = some (.int .i64 s.to_) ∧ w.cell? ⟨b, off + k * 4 + 3, none⟩ = some (.int .i64 s.at_)
theorem RdF.keep {w w' : World} {B : Nat} {A : Option Addr} {l : List Fd} (h : RdF w B A l) (hk : ∀ p : Addr, p.block < B → w'.cell? p = w.cell? p) : RdF w' B A l := by
  intro k s hs
  obtain ⟨b, off, e, hb, h0, h1, h2, h3⟩ := h k s hs
  exact ⟨b, off, e, hb, (hk _ hb).trans h0, (hk _ hb).trans h1, (hk _ hb).trans h2, (hk _ hb).trans h3⟩
theorem RdF.below {w w' : World} {B B' : Nat} {A : Option Addr} {l : List Fd} (h : RdF w B A l) (hb : Below B' w w') (hB : B ≤ B') : RdF w' B A l := h.keep fun _ hp => hb.cell (by omega)
theorem RdF.more {w : World} {B B' : Nat} {A : Option Addr} {l : List Fd} (h : RdF w B A l) (hB : B ≤ B') : RdF w B' A l := by
  intro k s hs
  obtain ⟨b, off, e, hb, hh⟩ := h k s hs
  exact ⟨b, off, e, by omega, hh⟩
theorem RdF.up {w w' : World} {A : Option Addr} {l : List Fd} (h : RdF w w.heap.size A l) (hb : Below w.heap.size w w') : RdF w' w'.heap.size A l := (h.below hb (Nat.le_refl _)).more hb.size
theorem RdF.alloc {w : World} {B : Nat} {A : Option Addr} {l : List Fd} (h : RdF w B A l) (hB : B ≤ w.heap.size) (o : Obj) : RdF (w.alloc o) B A l := h.keep fun p hp => World.cell?_alloc_lt w o p (by omega)
def OwnF (w : World) (base : Nat) (A : Option Addr) (n cap : Nat) (l : List Fd) : Prop := l.length = n ∧ w.ownsRow base 80 4 (.slice A n cap) n (fcells l)
theorem OwnF.rd {w : World} {base : Nat} {A : Option Addr} {n cap : Nat} {l : List Fd} (h : OwnF w base A n cap l) : RdF w w.heap.size A l := by
  obtain ⟨hl, h⟩ := h
  intro k s hs
  have hk : k < l.length := (List.getElem?_eq_some_iff.1 hs).1
  have h2 := h.2
  rcases h2 with ⟨hv, hn⟩ | ⟨g, cap', cur, hv, hbg, hg, hr⟩
  · omega
  · injection hv with ha hn hc
    subst ha; subst hc
    obtain ⟨c0, c1, c2, c3⟩ := fcells_get l k s hs
    have hlt : g < w.heap.size := (Array.getElem?_eq_some_iff.1 hg).1
    refine ⟨g, 0, rfl, hlt, ?_, ?_, ?_, ?_⟩
    · rw [h.cellAt _ (by omega)]; simpa using c0
    · rw [h.cellAt _ (by omega)]; simpa using c1
    · rw [h.cellAt _ (by omega)]; simpa using c2
    · rw [h.cellAt _ (by omega)]; simpa using c3
theorem OwnF.nil (w : World) (base : Nat) : OwnF w base none 0 0 [] := ⟨rfl, World.ownsRow_nil _ _ _ _⟩
theorem OwnF.below {w w' : World} {base : Nat} {A : Option Addr} {n cap B : Nat} {l : List Fd} (h : OwnF w base A n cap l) (hb : Below B w w') (hB : w.heap.size ≤ B) : OwnF w' base A n cap l :=
  ⟨h.1, h.2.kept (row := none) ⟨hb.os, hb.tape, hb.output, hb.size, fun k hk _ => hb.block k (by omega)⟩ (by cases A <;> simp [Value.ownBlock])⟩
theorem OwnF.up {w w' : World} {base : Nat} {A : Option Addr} {n cap : Nat} {l : List Fd} (h : OwnF w base A n cap l) (hb : Below w.heap.size w w') : OwnF w' base A n cap l := h.below hb (Nat.le_refl _)
theorem OwnF.alloc {w : World} {base : Nat} {A : Option Addr} {n cap : Nat} {l : List Fd} (h : OwnF w base A n cap l) (o : Obj) : OwnF (w.alloc o) base A n cap l := ⟨h.1, h.2.alloc o⟩
theorem OwnF.drewN {w : World} {base : Nat} {A : Option Addr} {n cap : Nat} {l : List Fd} (h : OwnF w base A n cap l) (k : Nat) : OwnF (w.drewN k) base A n cap l := h
theorem OwnF.mono {w : World} {base base' : Nat} {A : Option Addr} {n cap : Nat} {l : List Fd} (h : OwnF w base A n cap l) (hB : base' ≤ base) : OwnF w base' A n cap l := by
  obtain ⟨h0, h1, h2⟩ := h
  refine ⟨h0, h1, ?_⟩
  rcases h2 with h2 | ⟨g, cap', cur, hv, hbg, hr⟩
  · exact .inl h2
  · exact .inr ⟨g, cap', cur, hv, by omega, hr⟩
theorem OwnF.cap {w : World} {base : Nat} {A : Option Addr} {n cap : Nat} {l : List Fd} (h : OwnF w base A n cap l) : n ≤ cap ∧ cap ≤ maxLen := by
  obtain ⟨hl, h1, h2⟩ := h
  rcases h2 with ⟨hv, hn'⟩ | ⟨g, cap', cur, hv, hbg, hg, hnc, hcm, _⟩
  · injection hv with _ hn hc
    subst hc; omega
  · injection hv with ha _ hc
    subst hc
    exact ⟨hnc, hcm⟩
/-- A store beside the row. -/
theorem OwnF.setBeside {w : World} {base : Nat} {A : Option Addr} {n cap : Nat} {l : List Fd} (h : OwnF w base A n cap l) (a : Addr) (v : Value) (ha : a.block < base ∨ w.heap.size ≤ a.block) : OwnF (w.setCell a v) base A n cap l := by
  have hb := (Below.refl 0 w).setCell (p := a) (Nat.zero_le _) v
  refine ⟨h.1, h.2.kept (w' := w.setCell a v) (row := some a.block) ⟨hb.os, hb.tape, hb.output, hb.size, fun k _ hne => Below.heap_setCell w a v k (fun e => hne (by rw [e]))⟩ (.inr fun hh => ?_)⟩
  have := h.2.lt a.block hh
  omega
theorem ext_of_ownF {w' : World} {base : Nat} {v : Value} {n : Nat} {xs : List Value} (h : w'.ownsRow base 80 4 v n xs) : ∃ A cap, v = .slice A n cap := by
  rcases h.2 with ⟨hv, hn⟩ | ⟨g, cap', cur, hv, _⟩
  · subst hn; exact ⟨_, _, hv⟩
  · exact ⟨_, _, hv⟩
theorem appF_step {w wr W0 w1 : World} {BB n m c : Nat} {A' : Option Addr} {L K : List Fd} {v' : Value} (hown : OwnF wr BB A' n c L) (hb : Below BB w wr) (hsz : BB ≤ wr.heap.size)
    (hW : Below wr.heap.size wr W0) (hK : K.length = m) (hown' : w1.ownsRow BB 80 4 v' (n+m) (fcells L ++ fcells K)) (hg : W0.grownBy w1 (Value.slice A' n c).ownBlock) :
    (∃ A'' c'', v' = .slice A'' (n+m) c'' ∧ OwnF w1 BB A'' (n+m) c'' (L ++ K)) ∧ Below BB w w1 ∧ Below BB wr w1 ∧ W0.heap.size ≤ w1.heap.size ∧ (∀ g o, wr.heap.size ≤ g → g < W0.heap.size → w1.cell? ⟨g, o, none⟩ = W0.cell? ⟨g, o, none⟩) := by
  have hr : ∀ k, (Value.slice A' n c).ownBlock = some k → BB ≤ k ∧ k < wr.heap.size := hown.2.lt
  refine ⟨?_, ?_, (hW.mono hsz).grown hg (by have := hW.size; omega) (fun k hk => (hr k hk).1), hg.size, ?_⟩
  · obtain ⟨A'', c'', rfl⟩ := ext_of_ownF hown'
    exact ⟨A'', c'', rfl, by simp [hown.1, hK], by rw [fcells_append]; exact hown'⟩
  · exact (hb.trans (hW.mono hsz)).grown hg (by have := hW.size; omega) (fun k hk => (hr k hk).1)
  · intro g o h1 h2
    exact World.cell?_of_block (w := W0) (a := ⟨g, o, none⟩) (hg.block g h2 (fun e => by have := (hr g e.symm).2; omega))
theorem newf_one (w : World) (s : Fd) (g : Nat) (hg : g = w.heap.size) : ∀ j u, (fcells [s])[j]? = some u → (w.alloc (.cells #[.int .i64 s.src, .int .i64 s.fr, .int .i64 s.to_, .int .i64 s.at_] 80)).cell? ((⟨g, 0, none⟩ : Addr).add j) = some u := by
  subst hg
  intro j u hu
  have hadd : (⟨w.heap.size, 0, none⟩ : Addr).add j = ⟨w.heap.size, j, none⟩ := by unfold Addr.add; split <;> simp_all
  rw [hadd, cell_of_row _ _ j _ 80 (0, 0) (heap_alloc_new w _)]
  simpa [fcells_one] using hu
end Go.Proofs.Ytdpjblepcpjomaa.Rb
