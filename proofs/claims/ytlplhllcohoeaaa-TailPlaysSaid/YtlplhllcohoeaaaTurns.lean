/-
  The disk in memory behind a new file, a turned file, a piece more, other pieces. No walk.
-/
import Derived.Test.YtlplhllcohoeaaaKeepx
namespace Go.Proofs.Ytlplhllcohoeaaa
open Go.RowKit
section
variable {w w' : World} {db mb : Nat} {d : Dv} {lo : Int} {N : Nat} {S : Nat → Prop} {F : Option Nat} {Ap : Option Addr} {np cp : Nat} {ps : List (Int × Value)}
theorem own_ty {w : World} {a : Addr} {n c : Nat} {l : List Int} (h : OwnB w 0 (some a) n c l) : ∃ cur, w.heap[a.block]? = some (.cells cur 5 (0, 0)) := row_ty h.2
theorem PieceAt.ty {at_ : Int} {v : Value} (h : PieceAt w S lo at_ v) {a : Addr} {n c : Nat} (hv : v = .slice (some a) n c) : ∃ cur, w.heap[a.block]? = some (.cells cur 5 (0, 0)) := by
  rcases h.2.2.2 with h3 | ⟨a', l, c', e, hr, _, _⟩
  · rw [hv] at h3; cases h3
  · rw [hv] at e
    injection e with e
    injection e with e
    subst e
    exact own_ty hr
/-- The file's bytes are set: lying where they did, or in a block that came up. -/
theorem Dk.laid {fb : Nat} (h : Dk w db mb d lo N S (some fb) Ap np cp ps) {f : Fl} {An : Option Addr} {cn : Nat} {As : Option Addr} {cs : Nat} (_hdf : d.f = some f) (hf : FileAt w S fb f An cn As cs) (hap : ∀ p ∈ ps, Apart An p.2)
    {w1 : World} {A' : Option Addr} {n' c' : Nat} {l' : List Int} (hfr : Fr w w1 (inA An) (inA A')) (ho : OwnB w1 0 A' n' c' l') (hl : l'.length ≤ 1099511627776) :
    Dk (w1.setCell ⟨fb, 0, none⟩ (.slice A' n' c')) db mb { d with f := some ⟨l', f.safe, f.sure⟩ } lo N (Sx S w (w1.setCell ⟨fb, 0, none⟩ (.slice A' n' c'))) (some fb) Ap np cp ps ∧ Only w (w1.setCell ⟨fb, 0, none⟩ (.slice A' n' c')) S := by
  have hfb := h.lt _ hf.sf
  have hnf : ¬ inA An fb := fun hx => by
    cases An with
    | none => cases hx
    | some a =>
      obtain ⟨cur, hc⟩ := own_ty hf.now
      have e : a.block = fb := by injection hx
      exact ty_ne hc hf.head (by decide) e
  have hO1 : Only w w1 (inA An) := hfr.only
  have hO : Only w (w1.setCell ⟨fb, 0, none⟩ (.slice A' n' c')) (fun g => inA An g ∨ g = fb) := (hO1.mono fun g _ hg => .inl hg).trans ((Only.of_set w1 _ _).mono fun g _ hg => .inr hg)
  have hOS : Only w (w1.setCell ⟨fb, 0, none⟩ (.slice A' n' c')) S := hO.mono fun g _ hg => by
    rcases hg with hg | rfl
    · cases An with
      | none => cases hg
      | some a => injection hg with hg; subst hg; exact hf.sn a rfl
    · exact hf.sf
  have hsz := hO.size
  have hS : ∀ g, S g → Sx S w (w1.setCell ⟨fb, 0, none⟩ (.slice A' n' c')) g := fun g hg => .inl hg
  have h5 : ∀ x t cs, w.heap[x]? = some (.cells cs t (0, 0)) → t ≠ 5 → t ≠ 65 → ¬ (inA An x ∨ x = fb) := by
    rintro x t cs' hx h1 h2 (h3 | rfl)
    · cases An with
      | none => cases h3
      | some a =>
        obtain ⟨cur, hc⟩ := own_ty hf.now
        injection h3 with h3
        exact ty_ne hc hx (fun e => h1 e.symm) h3
    · exact ty_ne hx hf.head h2 rfl
  have hdb : ¬ (inA An db ∨ db = fb) := h5 db 59 _ h.head (by decide) (by decide)
  have hmb : ¬ (inA An mb ∨ mb = fb) := by
    rintro (h3 | rfl)
    · cases An with
      | none => cases h3
      | some a =>
        obtain ⟨cur, hc⟩ := own_ty hf.now
        injection h3 with h3
        exact h.map.ne hc h3.symm
    · exact h.map.ne hf.head rfl
  have hin : ∀ a, A' = some a → a.block < w1.heap.size := fun a e => by
    subst e
    obtain ⟨cur, hc⟩ := own_ty ho
    exact (Array.getElem?_eq_some_iff.1 hc).1
  have hcase : ∀ a, A' = some a → inA An a.block ∨ w.heap.size ≤ a.block := fun a e => by
    by_cases hlt : a.block < w.heap.size
    · by_cases hi : inA An a.block
      · exact .inl hi
      · exact absurd (by subst e; rfl) (hfr.beside _ hlt hi).2
    · exact .inr (by omega)
  refine ⟨⟨?_, h.map.same (hO.rest _ h.map.lt hmb), .inr ⟨fb, _, A', c', As, cs, rfl, rfl, ?_, ?_⟩, ?_, h.pn, hS _ h.sd, hS _ h.sm, Sx.lt h.lt hsz, h.rm, h.cg, h.lf⟩, hOS⟩
  · rw [hO.rest _ (h.lt _ h.sd) hdb]; exact h.head
  · have hhead : w1.heap[fb]? = w.heap[fb]? := hO1.rest _ hfb hnf
    have hA'fb : ∀ a, A' = some a → a.block ≠ fb := fun a e => by
      rcases hcase a e with hi | hi
      · intro e2; rw [e2] at hi; exact hnf hi
      · omega
    refine ⟨?_, ?_, ⟨hf.safe.1, row_keepP hf.safe.2 hO ?_⟩, hS _ hf.sf, ?_, fun a e => hS _ (hf.ss a e), ?_, hl, hf.ls⟩
    · rw [heap_setCell_same _ _ _ _ _ _ (hhead.trans hf.head), ho.1]; rfl
    · rw [ho.1]
      exact ⟨ho.1, row_keepP ho.2 (Only.of_set w1 _ _) hA'fb⟩
    · intro a e hX
      rcases hX with hX | hX
      · cases An with
        | none => cases hX
        | some b => injection hX with hX; exact absurd hX (hf.ne b a rfl e)
      · subst e
        obtain ⟨cur, hc⟩ := own_ty hf.safe
        exact ty_ne hc hf.head (by decide) hX
    · intro a e
      rcases hcase a e with hi | hi
      · cases An with
        | none => cases hi
        | some b => injection hi with hi; rw [← hi]; exact hS _ (hf.sn b rfl)
      · exact .inr ⟨hi, by have := hin a e; simpa using this⟩
    · intro a b e1 e2
      rcases hcase a e1 with hi | hi
      · cases An with
        | none => cases hi
        | some c => injection hi with hi; rw [← hi]; exact hf.ne c b rfl e2
      · have := h.lt _ (hf.ss b e2); omega
  · intro p hp a n c b hv e
    rcases hcase b e with hi | hi
    · cases An with
      | none => cases hi
      | some c' => injection hi with hi; rw [← hi]; exact hap p hp a n c c' hv rfl
    · have hpa := (h.pend.all p hp).2.2.2
      rcases hpa with hpa | ⟨a', l, c, e', _, hSa, _⟩
      · rw [hv] at hpa; cases hpa
      · rw [hv] at e'
        injection e' with e'
        injection e' with e'
        subst e'
        have := h.lt _ hSa
        omega
  · refine h.pend.keepP hO hS (fun a e => ?_) (fun p hp a n c hv hX => ?_)
    · subst e
      obtain ⟨cur, hc⟩ := row_ty h.pend.row
      exact h5 _ 74 _ hc (by decide) (by decide)
    · rcases hX with hX | hX
      · cases An with
        | none => cases hX
        | some b => injection hX with hX; exact absurd hX (hap p hp a n c b hv rfl)
      · obtain ⟨cur, hc⟩ := (h.pend.all p hp).ty hv
        exact ty_ne hc hf.head (by decide) hX
/-- A file without bytes comes up. -/
theorem Dk.born (h : Dk w db mb d lo N S none Ap np cp ps) {w2 : World} (hm : FM w2 mb (some w.heap.size)) (hg : (w.alloc (.cells #[.slice none 0 0, .slice none 0 0, .bool false] 65)).grownBy w2 (some mb)) :
    Dk w2 db mb { d with f := some ⟨[], [], false⟩ } lo N (Sx S w w2) (some w.heap.size) Ap np cp ps ∧ Only w w2 S := by
  have hO : Only w w2 (fun g => g = mb) := (Only.of_below ((Below.refl _ _).alloc (Nat.le_refl _) _)).trans ((Only.of_grown hg).mono fun g _ e => by injection e)
  have hOS : Only w w2 S := hO.mono fun g _ e => by rw [e]; exact h.sm
  have hsz := hg.size
  simp at hsz
  have hnm : ∀ x t cs, w.heap[x]? = some (.cells cs t (0, 0)) → x ≠ mb := fun x t cs hx e => h.map.ne hx e.symm
  have hS : ∀ g, S g → Sx S w w2 g := fun g hg => .inl hg
  refine ⟨⟨?_, hm, .inr ⟨_, _, none, 0, none, 0, rfl, rfl, ⟨?_, OwnB.nil _ _, OwnB.nil _ _, .inr ⟨Nat.le_refl _, by omega⟩, by simp, by simp, by simp, by simp, by simp⟩, fun _ _ _ _ _ _ _ e => by cases e⟩, ?_, h.pn, hS _ h.sd, hS _ h.sm, Sx.lt h.lt (by omega), h.rm, h.cg, h.lf⟩, hOS⟩
  · rw [hO.rest _ (h.lt _ h.sd) (hnm _ _ _ h.head)]; exact h.head
  · rw [hg.block _ (by simp) (fun e => by injection e with e; have := h.map.lt; omega)]
    exact heap_alloc_new _ _
  · refine h.pend.keepP hO hS (fun a e => ?_) (fun p hp a n c' hv hX => ?_)
    · subst e
      obtain ⟨cur, hc⟩ := row_ty h.pend.row
      exact hnm _ _ _ hc
    · obtain ⟨cur, hc⟩ := (h.pend.all p hp).ty hv
      exact hnm _ _ _ hc hX
/-- Other pieces are pending. -/
theorem Dk.pended (h : Dk w db mb d lo N S F Ap np cp ps) {w1 : World} {S' : Nat → Prop} {Ap' : Option Addr} {np' cp' : Nat} {ps' : List (Int × Value)} {N' : Nat} {lo' : Int} (hO : Only w w1 (inA Ap)) (hS : ∀ g, S g → S' g) (hlt : ∀ g, S' g → g < w1.heap.size)
    (hp : PendAt w1 S' lo' Ap' np' cp' ps') (hap : ∀ An, (∀ b, An = some b → b.block < w.heap.size) → (∀ p ∈ ps, Apart An p.2) → ∀ p ∈ ps', Apart An p.2) (hN : N ≤ N') (hn : np' ≤ N') :
    Dk (w1.setCell ⟨db, 6, none⟩ (.slice Ap' np' cp')) db mb d lo' N' S' F Ap' np' cp' ps' ∧ Only w (w1.setCell ⟨db, 6, none⟩ (.slice Ap' np' cp')) S := by
  have hO2 : Only w (w1.setCell ⟨db, 6, none⟩ (.slice Ap' np' cp')) (fun g => inA Ap g ∨ g = db) := (hO.mono fun g _ hg => .inl hg).trans ((Only.of_set w1 _ _).mono fun g _ hg => .inr hg)
  have hOS : Only w (w1.setCell ⟨db, 6, none⟩ (.slice Ap' np' cp')) S := hO2.mono fun g _ hg => by
    rcases hg with hg | rfl
    · cases Ap with
      | none => cases hg
      | some a => injection hg with hg; subst hg; exact h.pend.sp a rfl
    · exact h.sd
  have hty : ∀ x, inA Ap x → ∃ cur, w.heap[x]? = some (.cells cur 74 (0, 0)) := fun x hx => by
    cases Ap with
    | none => cases hx
    | some a => injection hx with hx; subst hx; exact row_ty h.pend.row
  have h5 : ∀ x t cs, w.heap[x]? = some (.cells cs t (0, 0)) → t ≠ 59 → t ≠ 74 → ¬ (inA Ap x ∨ x = db) := by
    rintro x t cs' hx h1 h2 (h3 | rfl)
    · obtain ⟨cur, hc⟩ := hty x h3
      exact ty_ne hx hc h2 rfl
    · exact ty_ne hx h.head h1 rfl
  have hdb : ¬ inA Ap db := fun hx => by
    obtain ⟨cur, hc⟩ := hty _ hx
    exact ty_ne h.head hc (by decide) rfl
  have hmb : ¬ (inA Ap mb ∨ mb = db) := by
    rintro (h3 | rfl)
    · obtain ⟨cur, hc⟩ := hty _ h3
      exact h.map.ne hc rfl
    · exact h.map.ne h.head rfl
  have h5' : ∀ x cs, w.heap[x]? = some (.cells cs 5 (0, 0)) → ¬ (inA Ap x ∨ x = db) := fun x cs hx => h5 x 5 cs hx (by decide) (by decide)
  have hsz := hO.size
  refine ⟨⟨?_, h.map.same (hO2.rest _ h.map.lt hmb), ?_, ⟨row_keepP hp.row (Only.of_set w1 _ _) (fun a e hx => ?_), hp.len, fun p hpp => ?_, hp.sp⟩, hn, hS _ h.sd, hS _ h.sm, fun g hg => by have := hlt g hg; simpa using this, h.rm, ⟨h.cg.1, by have := h.cg.2; omega⟩, ⟨by have := h.lf.1; omega, h.lf.2⟩⟩, hOS⟩
  · rw [heap_setCell_same _ _ _ _ _ _ ((hO.rest _ (h.lt _ h.sd) hdb).trans h.head)]; rfl
  · rcases h.file with h3 | ⟨fb, f, An, cn, As, cs, e1, e2, h3, h4⟩
    · exact .inl h3
    · refine .inr ⟨fb, f, An, cn, As, cs, e1, e2, h3.keepP hO2 hS (h.lt _ h3.sf) (h5 _ 65 _ h3.head (by decide) (by decide)) (fun a e => ?_) (fun a e => ?_), hap An (fun b e => h.lt _ (h3.sn b e)) h4⟩
      · subst e
        obtain ⟨cur, hc⟩ := own_ty h3.now
        exact h5' _ _ hc
      · subst e
        obtain ⟨cur, hc⟩ := own_ty h3.safe
        exact h5' _ _ hc
  · subst e
    obtain ⟨cur, hc⟩ := row_ty hp.row
    exact ty_ne hc ((hO.rest _ (h.lt _ h.sd) hdb).trans h.head) (by decide) hx
  · refine (hp.all p hpp).keepP (Only.of_set w1 _ _) (fun _ hg => hg) (fun a n c hv hx => ?_)
    obtain ⟨cur, hc⟩ := (hp.all p hpp).ty hv
    exact ty_ne hc ((hO.rest _ (h.lt _ h.sd) hdb).trans h.head) (by decide) hx
end
end Go.Proofs.Ytlplhllcohoeaaa
