/-
  An append of a slice that reads as a list, nil let in, to a row of the call's own. No program in sight.
-/
import Derived.Test.YtdpjblepcpjomaaSBytes
namespace Go
theorem wpList_append_any {P : Program} {w : World} {ops : Array Oper} {rest : List Oper} {o : Oper} {a : Act} {Q : Exit → Act → World → Prop} (hgd : o.guard = none) (s x : Operand) (t : TypeId)
    (ho : o.op = .call { callee := .builtin .append, args := #[s, x], argTypes := #[t, t] })
    (base : Nat) (e : TypeId) (i : TypeInfo) (z : Value) (size bytes : Nat) (ht : P.underlying t = some (.slice e)) (hi : P.info? e = some i) (hz : i.zero = some z)
    (hsize : i.size = size) (hby : i.bytes = bytes) (hzs : z.cells.size = size) (hsz : 0 < size)
    (v : Value) (n : Nat) (xs : List Value) (hs : a.eval s = v) (hown : w.ownsRow base e size v n xs)
    (A : Option Addr) (m c : Nat) (news : List Value) (hx : a.eval x = .slice A m c) (hnone : A = none → m = 0 ∧ c = 0) (hl : news.length = m * size) (hnews : ∀ ad, A = some ad → ∀ j u, news[j]? = some u → w.cell? (ad.add j) = some u) (h1 : ∀ u ∈ news, u.oneCell' = true)
    (h63 : n + m ≤ maxLen) (hbytes : (n + m) * bytes ≤ 140737488355328) (hbase : base ≤ w.heap.size)
    (h : ∀ v' w', w'.ownsRow base e size v' (n + m) (xs ++ news) → w.grownBy w' v.ownBlock → wpList P ops Q rest (a.put o.dst v') w') : wpList P ops Q (o :: rest) a w := by
  cases A with
  | none =>
    obtain ⟨rfl, rfl⟩ := hnone rfl
    have hn : news = [] := List.eq_nil_of_length_eq_zero (by simpa using hl)
    subst hn
    refine wpList_append_own_none hgd s x t ho base e i size ht hi v n xs hs hown hx (h v w ?_ (World.grownBy.refl _ _))
    simpa using hown
  | some ad =>
    exact wpList_append_own w hgd s x t ho base e i z size bytes ht hi hz hsize hby hzs hsz v n xs hs hown ad m c news hx hl (hnews ad rfl) h1 h63 hbytes hbase (fun v' w' h1 h2 _ => h v' w' h1 h2)
end Go
namespace Go.Proofs.Ytdpjblepcpjomaa.Sc
open Go.RowKit
theorem cells_inv (l : List S) (j : Nat) (u : Value) (h : (cells l)[j]? = some u) : ∃ k s, l[k]? = some s ∧ ((j = k*3 ∧ u = .int .i64 s.src) ∨ (j = k*3+1 ∧ u = .int .i64 s.at_) ∨ (j = k*3+2 ∧ u = .int .i64 s.len)) := by
  induction l generalizing j with
  | nil => simp [cells] at h
  | cons a l ih =>
    rw [cells_cons] at h
    match j, h with
    | 0, h => simp at h; exact ⟨0, a, rfl, .inl ⟨rfl, h.symm⟩⟩
    | 1, h => simp at h; exact ⟨0, a, rfl, .inr (.inl ⟨rfl, h.symm⟩)⟩
    | 2, h => simp at h; exact ⟨0, a, rfl, .inr (.inr ⟨rfl, h.symm⟩)⟩
    | j+3, h =>
      simp at h
      obtain ⟨k, s, hs, hh⟩ := ih j h
      refine ⟨k+1, s, by simpa using hs, ?_⟩
      rcases hh with ⟨e, hu⟩ | ⟨e, hu⟩ | ⟨e, hu⟩
      · exact .inl ⟨by omega, hu⟩
      · exact .inr (.inl ⟨by omega, hu⟩)
      · exact .inr (.inr ⟨by omega, hu⟩)
theorem Rd.cells {w : World} {B : Nat} {A : Option Addr} {l : List S} (h : Rd w B A l) : ∀ ad, A = some ad → ∀ j u, (cells l)[j]? = some u → w.cell? (ad.add j) = some u := by
  intro ad hA j u hu
  obtain ⟨k, s, hs, hh⟩ := cells_inv l j u hu
  obtain ⟨b, off, e, _, c0, c1, c2⟩ := h k s hs
  rw [hA] at e
  cases e
  have hadd : ∀ i, (⟨b, off, none⟩ : Addr).add i = ⟨b, off + i, none⟩ := fun i => by unfold Addr.add; split <;> simp_all
  rw [hadd]
  rcases hh with ⟨e, hu⟩ | ⟨e, hu⟩ | ⟨e, hu⟩
  · rw [e, hu]; exact c0
  · rw [e, hu, ← Nat.add_assoc]; exact c1
  · rw [e, hu, ← Nat.add_assoc]; exact c2
theorem RdB.cells' {w : World} {B : Nat} {A : Option Addr} {l : List Int} (h : RdB w B A l) : ∀ ad, A = some ad → ∀ j u, (bcells l)[j]? = some u → w.cell? (ad.add j) = some u := by
  intro ad hA j u hu
  rw [bcells_get] at hu
  obtain ⟨v, hv, rfl⟩ := Option.map_eq_some_iff.1 hu
  obtain ⟨b', off', e, hb, hc⟩ := h _ _ hv
  rw [hA] at e
  cases e
  have hadd : (⟨b', off', none⟩ : Addr).add j = ⟨b', off' + j, none⟩ := by unfold Addr.add; split <;> simp_all
  rw [hadd]; exact hc
/-- Behind an append of a list of scraps to the call's own row. -/
theorem appL_step {w wr W0 w1 : World} {BB n m c : Nat} {A' : Option Addr} {L K : List S} {v' : Value} (hown : Own wr BB A' n c L) (hb : Below BB w wr) (hsz : BB ≤ wr.heap.size)
    (hW : Below wr.heap.size wr W0) (hK : K.length = m) (hown' : w1.ownsRow BB 56 3 v' (n+m) (Go.Proofs.Ytdpjblepcpjomaa.Sc.cells L ++ Go.Proofs.Ytdpjblepcpjomaa.Sc.cells K)) (hg : W0.grownBy w1 (Value.slice A' n c).ownBlock) :
    (∃ A'' c'', v' = .slice A'' (n+m) c'' ∧ Own w1 BB A'' (n+m) c'' (L ++ K)) ∧ Below BB w w1 ∧ Below BB wr w1 ∧ W0.heap.size ≤ w1.heap.size ∧ (∀ g o, wr.heap.size ≤ g → g < W0.heap.size → w1.cell? ⟨g, o, none⟩ = W0.cell? ⟨g, o, none⟩) := by
  have hr : ∀ k, (Value.slice A' n c).ownBlock = some k → BB ≤ k ∧ k < wr.heap.size := hown.2.lt
  refine ⟨?_, ?_, (hW.mono hsz).grown hg (by have := hW.size; omega) (fun k hk => (hr k hk).1), hg.size, ?_⟩
  · obtain ⟨A'', c'', rfl⟩ := ext_of_own hown'
    exact ⟨A'', c'', rfl, by simp [hown.1, hK], by rw [cells_append]; exact hown'⟩
  · exact (hb.trans (hW.mono hsz)).grown hg (by have := hW.size; omega) (fun k hk => (hr k hk).1)
  · intro g o h1 h2
    exact World.cell?_of_block (w := W0) (a := ⟨g, o, none⟩) (hg.block g h2 (fun e => by have := (hr g e.symm).2; omega))
theorem Own.none {w : World} {base : Nat} {A : Option Addr} {n c : Nat} {l : List S} (h : Own w base A n c l) : A = .none → n = 0 ∧ c = 0 := by
  intro hA
  rcases h.nilOr with ⟨_, h2, h3⟩ | ⟨g, h1, _⟩
  · exact ⟨h2, h3⟩
  · rw [hA] at h1; cases h1
theorem OwnB.none {w : World} {base : Nat} {A : Option Addr} {n c : Nat} {l : List Int} (h : OwnB w base A n c l) : A = .none → n = 0 ∧ c = 0 := by
  intro hA
  rcases h.2.2 with ⟨hv, hn'⟩ | ⟨g, cap', cur, hv, _⟩
  · injection hv with ha hn hc
    exact ⟨hn', hc⟩
  · injection hv with ha _ _
    rw [hA] at ha; cases ha
/-- An empty slice that is not nil. -/
theorem Own.empty (w : World) (base g : Nat) (h : base ≤ w.heap.size) (hg : g = w.heap.size) : Own (w.alloc (.cells #[] 56)) base (some ⟨g, 0, .none⟩) 0 0 [] := by
  subst hg
  exact ⟨rfl, World.ownsRow_made w #[] 0 h (by decide) rfl⟩
end Go.Proofs.Ytdpjblepcpjomaa.Sc
