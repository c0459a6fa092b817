/-
  A journal as bytes and in memory, plain: what it reads as, whether it may be.
-/
import Derived.Test.YtblibmalommdkaaGreatED
import Derived.Test.YtblibmalommdkaaGreatUOpen
import Derived.Test.YtblibmalommdkaaGreatKA
import Derived.Test.YtblibmalommdkaaGreatMC
namespace Go.Proofs.YtblibmalommdkaaGreat
open Go.RowKit
open Re (RdB Bytes num many Fwd pPlan pRange pWave pStep pPart Sup outS openS okS sup0)
/-- A journal. -/
structure Jn where
  old : Int
  sup : Sup
  pln : Pln
  stash : List Int
/-- What a journal's bytes say. -/
def pJour (l : List Int) : Option Jn := (num l 4 0).bind fun o => if 68 ≤ l.length then (openS ((l.drop 4).take 64)).bind fun s => (pPlan l 68).map fun p => ⟨o.1, s, p.1, l.drop p.2⟩ else none
/-- May a journal be? -/
def MayJ (j : Jn) : Prop := 0 ≤ j.old ∧ j.old ≤ 1048576 ∧ okS j.sup ∧ j.sup.orig = j.pln.size ∧ PlanP j.pln j.old j.sup.tail ∧ (j.stash.length : Int) = tot j.pln.stash
/-- A journal in memory. -/
structure JnV where
  old : Int
  sup : Sup
  p : PlV
  TA : Option Addr
  tc : Nat
  stash : List Int
def JnV.jn (v : JnV) : Jn := ⟨v.old, v.sup, v.p.pln, v.stash⟩
def JnV.cells (v : JnV) : Array Value := #[.int .i64 v.old, .int .i64 v.sup.gen, .int .i64 v.sup.roll, .int .i64 v.sup.cur, .int .i64 v.sup.tail, .int .i64 v.sup.orig, .int .i64 v.p.size, .slice v.p.SA v.p.stash.length v.p.sc, .slice v.p.WA v.p.waves.length v.p.wc, .slice v.TA v.stash.length v.tc]
def jn0 : JnV := ⟨0, sup0, ⟨0, none, 0, [], none, 0, []⟩, none, 0, []⟩
structure JnOk (w : World) (B : Nat) (v : JnV) : Prop where
  p : PlOk w B v.p
  st : RdB w B v.TA v.stash
  cap : v.stash.length ≤ v.tc ∧ v.tc ≤ 9223372036854775807
  no : v.TA = none → v.stash.length = 0 ∧ v.tc = 0
  o : I64 v.old
theorem out_open (l : List Int) : (∃ s, openS l = some s ∧ outS l = (s, 0)) ∨ (openS l = none ∧ (outS l = (sup0, 4) ∨ outS l = (sup0, 5))) := by
  unfold openS outS
  by_cases h1 : Re.leVal (l.drop 60) = (Re.crcOf (l.take 60) : Int)
  · by_cases h2 : Re.formS (l.take 60) = true
    · exact .inl ⟨_, by rw [if_pos ⟨h1, h2⟩], by rw [if_neg (by simpa using h1), if_pos h2]⟩
    · exact .inr ⟨by rw [if_neg (fun h => h2 h.2)], .inl (by rw [if_neg (by simpa using h1), if_neg h2])⟩
  · exact .inr ⟨by rw [if_neg (fun h => h1 h.1)], .inr (by rw [if_pos (by simpa using h1)])⟩
theorem many_all {α : Type} {f : Nat → Option (α × Nat)} {P : α → Prop} (hf : ∀ a x b, f a = some (x, b) → P x) : ∀ N a xs b, many f N a = some (xs, b) → ∀ x ∈ xs, P x := by
  intro N
  induction N with
  | zero => intro a xs b h; simp [many] at h; obtain ⟨rfl, _⟩ := h; intro x hx; cases hx
  | succ N ih =>
    intro a xs b h
    rw [many] at h
    cases h1 : f a with
    | none => rw [h1] at h; cases h
    | some p =>
      rw [h1] at h
      cases h2 : many f N p.2 with
      | none => simp [h2] at h
      | some r =>
        simp [h2] at h
        obtain ⟨rfl, _⟩ := h
        intro x hx
        rcases List.mem_cons.1 hx with rfl | hx
        · exact hf a p.1 p.2 h1
        · exact ih p.2 r.1 r.2 h2 x hx
theorem many_len {α : Type} {f : Nat → Option (α × Nat)} : ∀ N a xs b, many f N a = some (xs, b) → xs.length = N := by
  intro N
  induction N with
  | zero => intro a xs b h; simp [many] at h; obtain ⟨rfl, _⟩ := h; rfl
  | succ N ih =>
    intro a xs b h
    rw [many] at h
    cases h1 : f a with
    | none => rw [h1] at h; cases h
    | some p =>
      rw [h1] at h
      cases h2 : many f N p.2 with
      | none => simp [h2] at h
      | some r =>
        simp [h2] at h
        obtain ⟨rfl, _⟩ := h
        simp [ih p.2 r.1 r.2 h2]
/-- The numbers of what is read are small, and so are its rows. -/
theorem plan_bd {l : List Int} (hy : Bytes l) {a b : Nat} {q : Pln} (ha : a ≤ l.length) (h : pPlan l a = some (q, b)) : (0 ≤ q.size ∧ q.size < 4294967296) ∧ IR q.stash ∧ (∀ v ∈ q.waves, ∀ s ∈ v, I64 s.1) ∧ q.stash.length * 8 ≤ l.length ∧ q.waves.length ≤ l.length ∧ b ≤ l.length := by
  unfold pPlan at h
  cases h1 : num l 4 a with
  | none => simp [h1] at h
  | some n =>
    have b1 := Re.num_fwd l 4 a n.1 n.2 ha h1
    cases h2 : num l 4 n.2 with
    | none => simp [h1, h2] at h
    | some k =>
      have b2 := Re.num_fwd l 4 n.2 k.1 k.2 b1.2 h2
      cases h3 : many (pRange l) k.1.toNat k.2 with
      | none => simp [h1, h2, h3] at h
      | some st =>
        have b3 := Re.many_fwd (Re.pRange_fwd l) _ _ st.1 st.2 b2.2 h3
        cases h4 : num l 4 st.2 with
        | none => simp [h1, h2, h3, h4] at h
        | some m =>
          have b4 := Re.num_fwd l 4 st.2 m.1 m.2 b3.2 h4
          cases h5 : many (pWave l) m.1.toNat m.2 with
          | none => simp [h1, h2, h3, h4, h5] at h
          | some ws =>
            have b5 := Re.many_fwd (Re.pWave_fwd l) _ _ ws.1 ws.2 b4.2 h5
            simp [h1, h2, h3, h4, h5] at h
            obtain ⟨rfl, rfl⟩ := h
            have l3 := many_len _ _ st.1 st.2 h3
            have l5 := many_len _ _ ws.1 ws.2 h5
            refine ⟨Re.num_bd hy (b := n.2) h1 (by omega), ?_, ?_, by simp only; omega, by simp only; omega, b5.2⟩
            · exact many_all (P := fun r : R => I64 r.1 ∧ I64 r.2) (fun a x b hx => by
                unfold pRange at hx
                cases g1 : num l 4 a with
                | none => simp [g1] at hx
                | some y =>
                  cases g2 : num l 4 y.2 with
                  | none => simp [g1, g2] at hx
                  | some z =>
                    simp [g1, g2] at hx
                    obtain ⟨rfl, _⟩ := hx
                    have e1 := Re.num_bd hy (b := y.2) g1 (by omega)
                    have e2 := Re.num_bd hy (b := z.2) g2 (by omega)
                    unfold I64
                    simp only
                    omega) _ _ st.1 st.2 h3
            · exact many_all (P := fun v : List Stp => ∀ s ∈ v, I64 s.1) (fun a x b hx => by
                unfold pWave at hx
                cases g1 : num l 1 a with
                | none => simp [g1] at hx
                | some y =>
                  simp [g1] at hx
                  exact many_all (P := fun s : Stp => I64 s.1) (fun a x b hx => by
                    unfold pStep at hx
                    cases g3 : num l 4 a with
                    | none => simp [g3] at hx
                    | some u =>
                      cases g4 : num l 1 u.2 with
                      | none => simp [g3, g4] at hx
                      | some v =>
                        cases g5 : many (pPart l) v.1.toNat v.2 with
                        | none => simp [g3, g4, g5] at hx
                        | some r =>
                          simp [g3, g4, g5] at hx
                          obtain ⟨rfl, _⟩ := hx
                          have e1 := Re.num_bd hy (b := u.2) g3 (by omega)
                          unfold I64
                          simp only
                          omega) _ _ x b hx) _ _ ws.1 ws.2 h5
theorem OwnP.read {w : World} {base : Nat} {p : PlV} {q : Pln} {l : List Int} {a b : Nat} (h : OwnP w base p) (hy : Bytes l) (ha : a ≤ l.length) (hq : pPlan l a = some (q, b)) (he : p.pln = q) : PlOk w w.heap.size p := by
  obtain ⟨h1, h2, h3, _⟩ := plan_bd hy ha hq
  subst he
  refine h.ok (fun v hv s hs => ?_) h2 (by unfold I64; have := h1; simp only [PlV.pln] at this; omega)
  exact h3 v.wv (List.mem_map.2 ⟨v, hv, rfl⟩) s.st (List.mem_map.2 ⟨s, hs, rfl⟩)
end Go.Proofs.YtblibmalommdkaaGreat
