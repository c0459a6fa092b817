/-
  A space and the reference's, side by side in memory, that stand alike. No walk.
-/
import Derived.Test.YtobeppeadkoieaaSpc
import Derived.Test.YtobeppeadkoieaaReff
namespace Go.Proofs.Ytobeppeadkoieaa
open Go.RowKit
structure Jm (w : World) (B sb bu bw p : Nat) (res : Int) (u wt : Int → Bool) (A : Option Addr) (c : Nat) (tk U W T : List Int) (N : Nat) (S Rs : Nat → Prop) : Prop where
  sp : Sp w sb bu bw res u wt A c tk N
  rf : Rf w p res U W T Rs
  ss : ∀ b, SB bu sb A b → S b
  sl : ∀ b, S b → b < w.heap.size ∧ B ≤ b
  rl : ∀ b, Rs b → B ≤ b
  dis : ∀ b, S b → ¬ Rs b
section
variable {w w' : World} {B sb bu bw p : Nat} {res : Int} {u wt u' wt' : Int → Bool} {A A' : Option Addr} {c c' : Nat} {tk U W T tk' U' W' T' : List Int} {N N' : Nat} {S Rs : Nat → Prop}
theorem Jm.base (h : Jm w B sb bu bw p res u wt A c tk U W T N S Rs) : B ≤ w.heap.size := by
  have h1 := h.ss bu (.inl ⟨Nat.le_refl _, by have := h.sp.l1; have := h.sp.l2; omega⟩)
  have := h.sl bu h1
  omega
theorem Jm.prog (h : Jm w B sb bu bw p res u wt A c tk U W T N S Rs) (h' : Sp w' sb bu bw res u' wt' A' c' tk' N') (hb : Below bu w w') (hk : Kp w w' sb A A') : Jm w' B sb bu bw p res u' wt' A' c' tk' U W T N' (Sx S w w') Rs ∧ Below B w w' ∧ Only w w' S := by
  have hf := sp_fr h' hb hk
  have hB := h.base
  have ho : Only w w' S := (Only.of_fr hf).mono fun g _ hg => h.ss g hg
  refine ⟨⟨h', h.rf.stays ho.size (fun b hb => ho.rest b (h.rf.lt b hb) (fun hS => h.dis b hS hb)), fun b hS => ?_, fun b hS => ?_, h.rl, fun b hS hR => ?_⟩, ho.below hB (fun g hg hS => by have := (h.sl g hS).2; omega), ho⟩
  · by_cases hlt : b < w.heap.size
    · by_cases hSA : SB bu sb A b
      · exact .inl (h.ss b hSA)
      · exact absurd hS (hf.beside b hlt hSA).2
    · rcases hS with hS | hS
      · exact .inl (h.ss b (.inl hS))
      · exact .inr ⟨by omega, (row_in h'.row hS).2⟩
  · have hs := ho.size
    rcases hS with hS | hS
    · have := h.sl b hS; omega
    · omega
  · rcases hS with hS | hS
    · exact h.dis b hS hR
    · have := h.rf.lt b hR; omega
theorem Jm.ref (h : Jm w B sb bu bw p res u wt A c tk U W T N S Rs) (hr : Rf w' p res U' W' T' (Sx Rs w w')) (ho : Only w w' Rs) : Jm w' B sb bu bw p res u wt A c tk U' W' T' N S (Sx Rs w w') ∧ Below B w w' := by
  have hB := h.base
  refine ⟨⟨h.sp.stays ho.size (fun b hb hS => ho.rest b hb (h.dis b (h.ss b hS))), hr, h.ss, fun b hS => ?_, fun b hR => ?_, fun b hS hR => ?_⟩, ho.below hB (fun g hg hS => by have := h.rl g hS; omega)⟩
  · have := h.sl b hS; have := ho.size; omega
  · rcases hR with hR | hR
    · exact h.rl b hR
    · omega
  · rcases hR with hR | hR
    · exact h.dis b hS hR
    · have := (h.sl b hS).1; omega
theorem Jm.only (h : Jm w B sb bu bw p res u wt A c tk U W T N S Rs) {X : Nat → Prop} (ho : Only w w' X) (hX : ∀ b, S b ∨ Rs b → ¬ X b) : Jm w' B sb bu bw p res u wt A c tk U W T N S Rs :=
  ⟨h.sp.stays ho.size (fun b hlt hb => ho.rest b hlt (hX b (.inl (h.ss b hb)))), h.rf.stays ho.size (fun b hR => ho.rest b (h.rf.lt b hR) (hX b (.inr hR))), h.ss, fun b hS => by have := h.sl b hS; have := ho.size; omega, h.rl, h.dis⟩
theorem Jm.up (h : Jm w B sb bu bw p res u wt A c tk U W T N S Rs) (hb : Below w.heap.size w w') : Jm w' B sb bu bw p res u wt A c tk U W T N S Rs :=
  ⟨h.sp.stays hb.size (fun b hlt _ => hb.block b hlt), h.rf.stays hb.size (fun b hR => hb.block b (h.rf.lt b hR)), h.ss, fun b hS => by have := h.sl b hS; have := hb.size; omega, h.rl, h.dis⟩
end
/-- How the two stand. -/
structure Jp (res : Int) (u wt : Int → Bool) (tk U W T : List Int) (N M : Nat) : Prop where
  eq : T = tk
  uu : ∀ x, x ∈ U ↔ u x = true
  ww : ∀ x, x ∈ W ↔ wt x = true
  ru : Ris U
  rw_ : Ris W
  bu : ∀ x ∈ U, res ≤ x ∧ x < 1048576
  bw : ∀ x ∈ W, res ≤ x ∧ x < 1048576
  bt : ∀ x ∈ tk, res ≤ x ∧ x < 1048576
  lu : U.length ≤ M
  lw : W.length ≤ M
  lt : tk.length ≤ M
  ln : N ≤ M
  r0 : 0 ≤ res
  r1 : res ≤ 1048576
/-- Either there is a least page that is free, or none. -/
theorem least_free (res : Int) (r1 : res ≤ 1048576) (P : Int → Prop) : (∃ j, res ≤ j ∧ j < 1048576 ∧ ¬ P j ∧ ∀ i, res ≤ i → i < j → P i) ∨ (∀ i, res ≤ i → i < 1048576 → P i) := by
  have key : ∀ n : Nat, res + n ≤ 1048576 → (∃ j, res ≤ j ∧ j < res + n ∧ ¬ P j ∧ ∀ i, res ≤ i → i < j → P i) ∨ (∀ i, res ≤ i → i < res + n → P i) := by
    intro n
    induction n with
    | zero => intro _; exact .inr fun i h0 h1 => by omega
    | succ n ih =>
      intro hn
      rcases ih (by omega) with ⟨j, h1, h2, h3, h4⟩ | h
      · exact .inl ⟨j, h1, by omega, h3, h4⟩
      · by_cases hp : P (res + n)
        · refine .inr fun i h0 h1 => ?_
          by_cases e : i = res + n
          · subst e; exact hp
          · exact h i h0 (by omega)
        · exact .inl ⟨res + n, by omega, by omega, hp, h⟩
  have := key (1048576 - res).toNat (by omega)
  have e : res + ((1048576 - res).toNat : Int) = 1048576 := by omega
  rw [e] at this
  exact this
section
variable {res : Int} {u wt : Int → Bool} {tk U W T : List Int} {N M : Nat}
theorem Jp.more (h : Jp res u wt tk U W T N M) {M' : Nat} (hM : M ≤ M') : Jp res u wt tk U W T N M' :=
  { h with lu := by have := h.lu; omega, lw := by have := h.lw; omega, lt := by have := h.lt; omega, ln := by have := h.ln; omega }
theorem Jp.take (h : Jp res u wt tk U W T N M) (j : Int) (h0 : res ≤ j) (h1 : j < 1048576) : Jp res (upd u j true) wt (tk ++ [j]) (withL U j) W (T ++ [j]) (N+1) (M+1) := by
  refine ⟨by rw [h.eq], fun x => ?_, h.ww, withL_ris _ _ h.ru, h.rw_, fun x hx => ?_, h.bw, fun x hx => ?_, by have := withL_len U j; have := h.lu; omega, by have := h.lw; omega, by have := h.lt; simp; omega, by have := h.ln; omega, h.r0, h.r1⟩
  · rw [mem_withL, h.uu]
    by_cases e : x = j
    · subst e; simp [upd_same]
    · rw [upd_other _ _ e]; simp [e]
  · rcases (mem_withL U j x).1 hx with hx | rfl
    · exact h.bu x hx
    · exact ⟨h0, h1⟩
  · rcases List.mem_append.1 hx with hx | hx
    · exact h.bt x hx
    · rw [List.mem_singleton] at hx; subst hx; exact ⟨h0, h1⟩
theorem Jp.free (h : Jp res u wt tk U W T N M) (no : Int) (hno : no ∈ U) : Jp res (upd u no false) (upd wt no true) tk (outL U no) (withL W no) T (N+1) (M+1) := by
  refine ⟨h.eq, fun x => ?_, fun x => ?_, outL_ris _ _ h.ru, withL_ris _ _ h.rw_, fun x hx => h.bu x ((mem_outL U no x).1 hx).1, fun x hx => ?_, h.bt, by have := outL_len U no; have := h.lu; omega, by have := withL_len W no; have := h.lw; omega, by have := h.lt; omega, by have := h.ln; omega, h.r0, h.r1⟩
  · rw [mem_outL, h.uu]
    by_cases e : x = no
    · subst e; simp [upd_same]
    · rw [upd_other _ _ e]; simp [e]
  · rw [mem_withL, h.ww]
    by_cases e : x = no
    · subst e; simp [upd_same]
    · rw [upd_other _ _ e]; simp [e]
  · rcases (mem_withL W no x).1 hx with hx | rfl
    · exact h.bw x hx
    · exact h.bu x hno
theorem Jp.settle (h : Jp res u wt tk U W T N M) : Jp res u (fun _ => false) [] U [] [] N M :=
  ⟨rfl, h.uu, fun x => by simp, h.ru, List.Pairwise.nil, h.bu, fun x hx => absurd hx List.not_mem_nil, fun x hx => absurd hx List.not_mem_nil, h.lu, Nat.zero_le _, Nat.zero_le _, h.ln, h.r0, h.r1⟩
theorem Jp.keep (h : Jp res u wt tk U W T N M) (l : List Int) (hin : ∀ v ∈ l, res ≤ v ∧ v < 1048576) : Jp res (fun j => decide (j ∈ l)) (fun _ => false) [] (keepL l) [] [] (N + l.length) (M + l.length) :=
  ⟨rfl, fun x => by rw [mem_keepL]; simp, fun x => by simp, keepL_ris l, List.Pairwise.nil, fun x hx => hin x ((mem_keepL l x).1 hx), fun x hx => absurd hx List.not_mem_nil, fun x hx => absurd hx List.not_mem_nil, by have := keepL_len l; omega, Nat.zero_le _, Nat.zero_le _, by have := h.ln; omega, h.r0, h.r1⟩
theorem Jp.back (h : Jp res u wt tk U W T N M) (m : Nat) {u' : Int → Bool} {out : List Int} {U' out' : List Int} (h1 : (u', out) = (tk.drop m).foldl bstep (u, [])) (h2 : (U', out') = (T.drop m).foldl rstep (U, [])) : Jp res u' wt (tk.take m) U' W (T.take m) N M ∧ sortI out = out' ∧ out'.length ≤ M := by
  have hB := (Bk.start h.uu h.ru).fold (tk.drop m)
  rw [← h1] at hB
  rw [h.eq] at h2
  rw [← h2] at hB
  have hl := rfold_len (tk.drop m) (U, [])
  rw [← h2] at hl
  simp only [List.length_nil, List.length_drop] at hl
  refine ⟨⟨by rw [h.eq], hB.uu, h.ww, hB.ru, h.rw_, fun x hx => ?_, h.bw, fun x hx => h.bt x (List.mem_of_mem_take hx), by have := h.lu; omega, h.lw, by have := h.lt; simp; omega, h.ln, h.r0, h.r1⟩, hB.sorted, by have := h.lt; omega⟩
  have h3 := (hB.uu x).1 hx
  have h4 := bfold_sub (tk.drop m) (u, []) x (by rw [← h1]; exact h3)
  exact h.bu x ((h.uu x).2 h4)
end
end Go.Proofs.Ytobeppeadkoieaa
