/-
  Slices of bytes in memory: read, owned; rows of such slices. The element type's number is a parameter (5 here). No program in sight.
-/
import Derived.Test.YtdpjblepcpjomaaSPlain
namespace Go.Proofs.Ytdpjblepcpjomaa.Sc
open Go.RowKit
def bcells (l : List Int) : List Value := l.map (Value.int .u8)
theorem bcells_get (l : List Int) (k : Nat) : (bcells l)[k]? = (l[k]?).map (Value.int .u8) := by simp [bcells]
theorem bcells_one (l : List Int) : ∀ u ∈ bcells l, u.oneCell' = true := by
  intro u hu
  obtain ⟨x, _, rfl⟩ := List.mem_map.1 hu
  rfl
/-- A slice of bytes that reads as a list, nil let in. -/
def RdB (w : World) (B : Nat) (A : Option Addr) (l : List Int) : Prop :=
  ∀ k v, l[k]? = some v → ∃ b off, A = some ⟨b, off, none⟩ ∧ b < B ∧ w.cell? ⟨b, off + k, none⟩ = some (.int .u8 v)
theorem RdB.keep {w w' : World} {B : Nat} {A : Option Addr} {l : List Int} (h : RdB w B A l) (hk : ∀ p : Addr, p.block < B → w'.cell? p = w.cell? p) : RdB w' B A l := by
  intro k s hs
  obtain ⟨b, off, e, hb, h0⟩ := h k s hs
  exact ⟨b, off, e, hb, (hk _ hb).trans h0⟩
theorem RdB.below {w w' : World} {B B' : Nat} {A : Option Addr} {l : List Int} (h : RdB w B A l) (hb : Below B' w w') (hB : B ≤ B') : RdB w' B A l := h.keep fun _ hp => hb.cell (by omega)
theorem RdB.more {w : World} {B B' : Nat} {A : Option Addr} {l : List Int} (h : RdB w B A l) (hB : B ≤ B') : RdB w B' A l := by
  intro k s hs
  obtain ⟨b, off, e, hb, hh⟩ := h k s hs
  exact ⟨b, off, e, by omega, hh⟩
theorem RdB.up {w w' : World} {A : Option Addr} {l : List Int} (h : RdB w w.heap.size A l) (hb : Below w.heap.size w w') : RdB w' w'.heap.size A l := (h.below hb (Nat.le_refl _)).more hb.size
theorem RdB.alloc {w : World} {B : Nat} {A : Option Addr} {l : List Int} (h : RdB w B A l) (hB : B ≤ w.heap.size) (o : Obj) : RdB (w.alloc o) B A l := h.keep fun p hp => World.cell?_alloc_lt w o p (by omega)
theorem RdB.nil (w : World) (B : Nat) (A : Option Addr) : RdB w B A [] := fun k s hs => by simp at hs
theorem RdB.drewN {w : World} {B : Nat} {A : Option Addr} {l : List Int} (h : RdB w B A l) (n : Nat) : RdB (w.drewN n) B A l := h
/-- A piece of a row that is not empty. -/
theorem RdB.piece {w : World} {B b off : Nat} {l : List Int} (h : RdB w B (some ⟨b, off, none⟩) l) (i n : Nat) : RdB w B (some ⟨b, off + i, none⟩) ((l.drop i).take n) := by
  intro k v hv
  rw [List.getElem?_take] at hv
  split at hv
  · rw [List.getElem?_drop] at hv
    obtain ⟨b', off', e, hb, hc⟩ := h _ _ hv
    cases e
    exact ⟨b, off + i, rfl, hb, by rw [Nat.add_assoc]; exact hc⟩
  · cases hv
theorem RdB.cells {w : World} {B b off : Nat} {l : List Int} (h : RdB w B (some ⟨b, off, none⟩) l) : ∀ j u, (bcells l)[j]? = some u → w.cell? ((⟨b, off, none⟩ : Addr).add j) = some u := by
  intro j u hu
  rw [bcells_get] at hu
  obtain ⟨v, hv, rfl⟩ := Option.map_eq_some_iff.1 hu
  obtain ⟨b', off', e, hb, hc⟩ := h _ _ hv
  cases e
  have hadd : (⟨b, off, none⟩ : Addr).add j = ⟨b, off + j, none⟩ := by unfold Addr.add; split <;> simp_all
  rw [hadd]; exact hc
/-- The call's own row of bytes. -/
def OwnB (w : World) (base : Nat) (A : Option Addr) (n cap : Nat) (l : List Int) : Prop := l.length = n ∧ w.ownsRow base 5 1 (.slice A n cap) n (bcells l)
theorem OwnB.rd {w : World} {base : Nat} {A : Option Addr} {n cap : Nat} {l : List Int} (h : OwnB w base A n cap l) : RdB w w.heap.size A l := by
  obtain ⟨hl, h⟩ := h
  intro k s hs
  have hk : k < l.length := (List.getElem?_eq_some_iff.1 hs).1
  have h2 := h.2
  rcases h2 with ⟨hv, hn⟩ | ⟨g, cap', cur, hv, hbg, hg, hr⟩
  · omega
  · injection hv with ha hn hc
    subst ha; subst hc
    have hlt : g < w.heap.size := (Array.getElem?_eq_some_iff.1 hg).1
    refine ⟨g, 0, rfl, hlt, ?_⟩
    rw [h.cellAt _ (by omega), bcells_get, Nat.zero_add, hs]; rfl
theorem OwnB.nil (w : World) (base : Nat) : OwnB w base none 0 0 [] := ⟨rfl, World.ownsRow_nil _ _ _ _⟩
theorem OwnB.below {w w' : World} {base : Nat} {A : Option Addr} {n cap B : Nat} {l : List Int} (h : OwnB w base A n cap l) (hb : Below B w w') (hB : w.heap.size ≤ B) : OwnB w' base A n cap l :=
  ⟨h.1, h.2.kept (row := none) ⟨hb.os, hb.tape, hb.output, hb.size, fun k hk _ => hb.block k (by omega)⟩ (by cases A <;> simp [Value.ownBlock])⟩
theorem OwnB.alloc {w : World} {base : Nat} {A : Option Addr} {n cap : Nat} {l : List Int} (h : OwnB w base A n cap l) (o : Obj) : OwnB (w.alloc o) base A n cap l := ⟨h.1, h.2.alloc o⟩
theorem OwnB.drewN {w : World} {base : Nat} {A : Option Addr} {n cap : Nat} {l : List Int} (h : OwnB w base A n cap l) (k : Nat) : OwnB (w.drewN k) base A n cap l := h
theorem OwnB.mono {w : World} {base base' : Nat} {A : Option Addr} {n cap : Nat} {l : List Int} (h : OwnB w base A n cap l) (hB : base' ≤ base) : OwnB w base' A n cap l := by
  obtain ⟨h0, h1, h2⟩ := h
  refine ⟨h0, h1, ?_⟩
  rcases h2 with h2 | ⟨g, cap', cur, hv, hbg, hr⟩
  · exact .inl h2
  · exact .inr ⟨g, cap', cur, hv, by omega, hr⟩
theorem OwnB.cap {w : World} {base : Nat} {A : Option Addr} {n cap : Nat} {l : List Int} (h : OwnB w base A n cap l) : n ≤ cap ∧ cap ≤ maxLen := by
  obtain ⟨hl, h1, h2⟩ := h
  rcases h2 with ⟨hv, hn'⟩ | ⟨g, cap', cur, hv, hbg, hg, hnc, hcm, _⟩
  · injection hv with _ hn hc
    subst hc; omega
  · injection hv with ha _ hc
    subst hc
    exact ⟨hnc, hcm⟩
theorem ext_of_ownB {w' : World} {base : Nat} {v : Value} {n : Nat} {xs : List Value} (h : w'.ownsRow base 5 1 v n xs) : ∃ A cap, v = .slice A n cap := by
  rcases h.2 with ⟨hv, hn⟩ | ⟨g, cap', cur, hv, _⟩
  · subst hn; exact ⟨_, _, hv⟩
  · exact ⟨_, _, hv⟩
/-- Behind an append of bytes to the call's own row. -/
theorem appB_step {w wr W0 w1 : World} {BB n m c : Nat} {A' : Option Addr} {L K : List Int} {v' : Value} (hown : OwnB wr BB A' n c L) (hb : Below BB w wr) (hsz : BB ≤ wr.heap.size)
    (hW : Below wr.heap.size wr W0) (hK : K.length = m) (hown' : w1.ownsRow BB 5 1 v' (n+m) (bcells L ++ bcells K)) (hg : W0.grownBy w1 (Value.slice A' n c).ownBlock) :
    (∃ A'' c'', v' = .slice A'' (n+m) c'' ∧ OwnB w1 BB A'' (n+m) c'' (L ++ K)) ∧ Below BB w w1 ∧ Below BB wr w1 ∧ W0.heap.size ≤ w1.heap.size ∧ (∀ g o, wr.heap.size ≤ g → g < W0.heap.size → w1.cell? ⟨g, o, none⟩ = W0.cell? ⟨g, o, none⟩) := by
  have hr : ∀ k, (Value.slice A' n c).ownBlock = some k → BB ≤ k ∧ k < wr.heap.size := hown.2.lt
  refine ⟨?_, ?_, (hW.mono hsz).grown hg (by have := hW.size; omega) (fun k hk => (hr k hk).1), hg.size, ?_⟩
  · obtain ⟨A'', c'', rfl⟩ := ext_of_ownB hown'
    exact ⟨A'', c'', rfl, by simp [hown.1, hK], by simpa [bcells] using hown'⟩
  · exact (hb.trans (hW.mono hsz)).grown hg (by have := hW.size; omega) (fun k hk => (hr k hk).1)
  · intro g o h1 h2
    exact World.cell?_of_block (w := W0) (a := ⟨g, o, none⟩) (hg.block g h2 (fun e => by have := (hr g e.symm).2; omega))
theorem newb_one (w : World) (v : Int) (g : Nat) (hg : g = w.heap.size) : ∀ j u, (bcells [v])[j]? = some u → (w.alloc (.cells #[.int .u8 v] 5)).cell? ((⟨g, 0, none⟩ : Addr).add j) = some u := by
  subst hg
  intro j u hu
  have hadd : (⟨w.heap.size, 0, none⟩ : Addr).add j = ⟨w.heap.size, j, none⟩ := by unfold Addr.add; split <;> simp_all
  rw [hadd, cell_new]
  simpa [bcells] using hu
/-- A slice of slices of bytes. -/
def RdBL (w : World) (B : Nat) (A : Option Addr) (ls : List (List Int)) : Prop :=
  ∀ k l, ls[k]? = some l → ∃ b off Ak ck, A = some ⟨b, off, none⟩ ∧ b < B ∧ w.cell? ⟨b, off + k, none⟩ = some (.slice Ak l.length ck) ∧ l.length ≤ ck ∧ ck ≤ maxLen ∧ RdB w B Ak l
theorem RdBL.below {w w' : World} {B B' : Nat} {A : Option Addr} {l : List (List Int)} (h : RdBL w B A l) (hb : Below B' w w') (hB : B ≤ B') : RdBL w' B A l := by
  intro k l hl
  obtain ⟨b, off, Ak, ck, e, hlt, hc, h1, h2, hr⟩ := h k l hl
  exact ⟨b, off, Ak, ck, e, hlt, (hb.cell (p := ⟨b, off + k, none⟩) (show b < B' by omega)).trans hc, h1, h2, hr.below hb hB⟩
theorem RdBL.more {w : World} {B B' : Nat} {A : Option Addr} {l : List (List Int)} (h : RdBL w B A l) (hB : B ≤ B') : RdBL w B' A l := by
  intro k l hl
  obtain ⟨b, off, Ak, ck, e, hlt, hc, h1, h2, hr⟩ := h k l hl
  exact ⟨b, off, Ak, ck, e, by omega, hc, h1, h2, hr.more hB⟩
theorem RdBL.up {w w' : World} {A : Option Addr} {l : List (List Int)} (h : RdBL w w.heap.size A l) (hb : Below w.heap.size w w') : RdBL w' w'.heap.size A l := (h.below hb (Nat.le_refl _)).more hb.size

/-! ### The text of a list, as Text tells it -/
def srcOf (srcs : List (List Int)) (s : S) : List Int := srcs.getD s.src.toNat []
def textE (srcs : List (List Int)) : List S → Int
  | [] => 0
  | s :: l => if (srcs.length : Int) ≤ s.src then 6 else if ((srcOf srcs s).length : Int) < s.at_ ∨ ((srcOf srcs s).length : Int) - s.at_ < s.len then 2 else textE srcs l
def pieceB (srcs : List (List Int)) (s : S) : List Int := ((srcOf srcs s).drop s.at_.toNat).take s.len.toNat
def textB (srcs : List (List Int)) (l : List S) : List Int := l.flatMap (pieceB srcs)
/-- A scrap whose bytes are there. -/
def Has (srcs : List (List Int)) (s : S) : Prop := s.src < srcs.length ∧ s.at_ ≤ (srcOf srcs s).length ∧ s.len ≤ (srcOf srcs s).length - s.at_
theorem textE_append (srcs : List (List Int)) (l m : List S) (h : ∀ s ∈ l, Has srcs s) : textE srcs (l ++ m) = textE srcs m := by
  induction l with
  | nil => rfl
  | cons a l ih =>
    have ha := h a (by simp)
    unfold Has at ha
    rw [List.cons_append, textE, if_neg (by omega), if_neg (by omega)]
    exact ih fun s hs => h s (by simp [hs])
theorem textE_at {srcs : List (List Int)} {l : List S} {k : Nat} {s : S} (hs : l[k]? = some s) (h : ∀ s ∈ l.take k, Has srcs s) : textE srcs l = textE srcs (s :: l.drop (k+1)) := by
  obtain ⟨hk, rfl⟩ := List.getElem?_eq_some_iff.1 hs
  conv => lhs; rw [← List.take_append_drop k l, textE_append _ _ _ h, List.drop_eq_getElem_cons hk]
theorem textE_all {srcs : List (List Int)} {l : List S} (h : ∀ s ∈ l, Has srcs s) : textE srcs l = 0 := by
  have := textE_append srcs l [] h
  simpa [textE] using this
theorem has_take {srcs : List (List Int)} {l : List S} {k : Nat} {s : S} (hs : l[k]? = some s) (h : ∀ s ∈ l.take k, Has srcs s) (h' : Has srcs s) : ∀ s ∈ l.take (k+1), Has srcs s := by
  intro t ht
  rw [take_snoc l k s hs, List.mem_append] at ht
  rcases ht with ht | ht
  · exact h t ht
  · simp at ht; subst ht; exact h'
theorem has_all {srcs : List (List Int)} {l : List S} (h : textE srcs l = 0) : ∀ s ∈ l, Has srcs s := by
  induction l with
  | nil => intro s hs; simp at hs
  | cons a l ih =>
    rw [textE] at h
    split at h
    · cases h
    · split at h
      · cases h
      · intro s hs
        rcases List.mem_cons.1 hs with rfl | hs
        · unfold Has; omega
        · exact ih h s hs
theorem pieceB_length {srcs : List (List Int)} {s : S} (h : Has srcs s) (h0 : 0 ≤ s.at_) : (pieceB srcs s).length = s.len.toNat := by
  unfold Has at h
  simp only [pieceB, List.length_take, List.length_drop]
  omega
theorem textB_length {srcs : List (List Int)} {l : List S} (h : ∀ s ∈ l, Has srcs s) (ho : Ok l) : ((textB srcs l).length : Int) = tot l := by
  induction l with
  | nil => rfl
  | cons a l ih =>
    have ha := ho a (by simp)
    have h1 := pieceB_length (h a (by simp)) ha.2.2.1
    have h2 := ih (fun s hs => h s (by simp [hs])) ho.tail
    unfold okS at ha
    simp only [textB, List.flatMap_cons, List.length_append, tot] at h2 ⊢
    omega
theorem textB_snoc {srcs : List (List Int)} {l : List S} {k : Nat} {s : S} (hs : l[k]? = some s) : textB srcs (l.take (k+1)) = textB srcs (l.take k) ++ pieceB srcs s := by
  rw [take_snoc l k s hs]; simp [textB]
end Go.Proofs.Ytdpjblepcpjomaa.Sc
