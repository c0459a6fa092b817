/-
  A plan whose rows are all the call's own, each wave in a block beside the others; what stays of it, what is put behind.
-/
import Derived.Test.YteceephenfmdoaaKWplan
import Derived.Test.YteceephenfmdoaaMLit
namespace Go.Proofs.Yteceephenfmdoaa
open Go.RowKit
theorem row_in {w : World} {base e sz n c : Nat} {A : Option Addr} {xs : List Value} (h : w.ownsRow base e sz (.slice A n c) n xs) {b : Nat} (hb : inA A b) : base ≤ b ∧ b < w.heap.size ∧ ∃ cs, w.heap[b]? = some (Obj.cells cs e (0, 0)) := by
  rcases h.2 with ⟨hv, _⟩ | ⟨g, cap', cur, hv, hbg, hg, _⟩
  · injection hv with ha _ _
    subst ha
    exact absurd hb inA_none
  · injection hv with ha _ _
    subst ha
    have := inA_some.1 hb
    subst this
    exact ⟨hbg, (Array.getElem?_eq_some_iff.1 hg).1, cur, hg⟩
theorem row_mono {w : World} {base base' e sz n : Nat} {v : Value} {xs : List Value} (h : w.ownsRow base e sz v n xs) (hB : base' ≤ base) : w.ownsRow base' e sz v n xs := by
  obtain ⟨h1, h2⟩ := h
  refine ⟨h1, ?_⟩
  rcases h2 with h2 | ⟨g, cap', cur, hv, hbg, hr⟩
  · exact .inl h2
  · exact .inr ⟨g, cap', cur, hv, by omega, hr⟩
theorem row_hi {w w' : World} {base e sz n c : Nat} {A : Option Addr} {xs : List Value} (h : w.ownsRow base e sz (.slice A n c) n xs) (hk : ∀ b, base ≤ b → b < w.heap.size → (∃ cs, w.heap[b]? = some (Obj.cells cs e (0, 0))) → w'.heap[b]? = w.heap[b]?) : w'.ownsRow base e sz (.slice A n c) n xs :=
  row_same h fun b hb => hk b (row_in h hb).1 (row_in h hb).2.1 (row_in h hb).2.2
/-- A wave whose rows are the call's own. -/
structure OwnV (w : World) (base : Nat) (v : WvV) : Prop where
  row : OwnS w base v.A v.steps.length v.c v.steps
  parts : ∀ s ∈ v.steps, Sc.Own w base s.A s.parts.length s.c s.parts
structure OwnP (w : World) (base : Nat) (p : PlV) : Prop where
  st : Own w base p.SA p.stash.length p.sc p.stash
  wv : OwnW w base p.WA p.waves.length p.wc p.waves
  ws : ∀ v ∈ p.waves, OwnV w base v
  ap : ∀ (i j : Nat) u v b, p.waves[i]? = some u → p.waves[j]? = some v → inA u.A b → inA v.A b → i = j
/-- What stays where blocks of a row's type stay. -/
def Kt (w w' : World) (base e : Nat) : Prop := ∀ b, base ≤ b → b < w.heap.size → (∃ cs, w.heap[b]? = some (Obj.cells cs e (0, 0))) → w'.heap[b]? = w.heap[b]?
theorem Kt.of_below {w w' : World} {base e B : Nat} (hb : Below B w w') (hB : w.heap.size ≤ B) : Kt w w' base e := fun b _ h _ => hb.block b (by omega)
theorem Kt.of_box {w w' : World} {base e : Nat} (h : ∀ b, base ≤ b → b < w.heap.size → w'.heap[b]? = w.heap[b]?) : Kt w w' base e := fun b h1 h2 _ => h b h1 h2
theorem OwnV.keep {w w' : World} {base : Nat} {v : WvV} (h : OwnV w base v) (h70 : Kt w w' base 70) (h48 : Kt w w' base 48) : OwnV w' base v := ⟨⟨h.row.1, row_hi h.row.2 h70⟩, fun s hs => ⟨(h.parts s hs).1, row_hi (h.parts s hs).2 h48⟩⟩
theorem OwnV.mono {w : World} {base base' : Nat} {v : WvV} (h : OwnV w base v) (hB : base' ≤ base) : OwnV w base' v := ⟨⟨h.row.1, row_mono h.row.2 hB⟩, fun s hs => (h.parts s hs).mono hB⟩
theorem OwnP.keep {w w' : World} {base : Nat} {p : PlV} (h : OwnP w base p) (h67 : Kt w w' base 67) (h43 : Kt w w' base 43) (h70 : Kt w w' base 70) (h48 : Kt w w' base 48) : OwnP w' base p :=
  ⟨⟨h.st.1, row_hi h.st.2 h67⟩, ⟨h.wv.1, row_hi h.wv.2 h43⟩, fun v hv => (h.ws v hv).keep h70 h48, h.ap⟩
theorem OwnP.below {w w' : World} {base B : Nat} {p : PlV} (h : OwnP w base p) (hb : Below B w w') (hB : w.heap.size ≤ B) : OwnP w' base p := h.keep (.of_below hb hB) (.of_below hb hB) (.of_below hb hB) (.of_below hb hB)
theorem OwnP.box {w w' : World} {base : Nat} {p : PlV} (h : OwnP w base p) (hk : ∀ b, base ≤ b → b < w.heap.size → w'.heap[b]? = w.heap[b]?) : OwnP w' base p := h.keep (.of_box hk) (.of_box hk) (.of_box hk) (.of_box hk)
theorem OwnP.mono {w : World} {base base' : Nat} {p : PlV} (h : OwnP w base p) (hB : base' ≤ base) : OwnP w base' p := ⟨h.st.mono hB, ⟨h.wv.1, row_mono h.wv.2 hB⟩, fun v hv => (h.ws v hv).mono hB, h.ap⟩
theorem OwnS.none {w : World} {base n c : Nat} {A : Option Addr} {l : List StV} (h : OwnS w base A n c l) : A = .none → n = 0 ∧ c = 0 := by
  intro hA
  rcases h.2.2 with ⟨hv, hn⟩ | ⟨g, cap', cur, hv, _⟩
  · injection hv with _ _ hc
    exact ⟨hn, hc⟩
  · injection hv with ha _ _
    rw [hA] at ha; cases ha
theorem OwnW.none {w : World} {base n c : Nat} {A : Option Addr} {l : List WvV} (h : OwnW w base A n c l) : A = .none → n = 0 ∧ c = 0 := by
  intro hA
  rcases h.2.2 with ⟨hv, hn⟩ | ⟨g, cap', cur, hv, _⟩
  · injection hv with _ _ hc
    exact ⟨hn, hc⟩
  · injection hv with ha _ _
    rw [hA] at ha; cases ha
theorem OwnV.ok {w : World} {base : Nat} {v : WvV} (h : OwnV w base v) (hb : ∀ s ∈ v.steps, I64 s.blk) : WvOk w w.heap.size v := by
  refine ⟨fun k s hs => ?_, ?_, h.row.none⟩
  · obtain ⟨b, e, hlt, c0, c1⟩ := h.row.cellAt hs
    have hin := List.mem_of_getElem? hs
    have hp := h.parts s hin
    refine ⟨b, 0, e, hlt, by simpa using c0, by simpa using c1, hp.rd, ?_, hp.none, hb s hin⟩
    have := hp.cap
    unfold maxLen at this
    omega
  · have := h.row.cap
    unfold maxLen at this
    omega
theorem OwnP.ok {w : World} {base : Nat} {p : PlV} (h : OwnP w base p) (hb : ∀ v ∈ p.waves, ∀ s ∈ v.steps, I64 s.blk) (hi : IR p.stash) (hs : I64 p.size) : PlOk w w.heap.size p := by
  refine ⟨h.st.rd, ?_, h.st.none, hi, fun k v hv => ?_, ?_, h.wv.none, hs⟩
  · have := h.st.cap
    unfold maxLen at this
    omega
  · obtain ⟨b, e, hlt, c0⟩ := h.wv.cellAt hv
    have hin := List.mem_of_getElem? hv
    exact ⟨b, 0, e, hlt, by simpa using c0, (h.ws v hin).ok (hb v hin)⟩
  · have := h.wv.cap
    unfold maxLen at this
    omega
/-- A wave put behind. -/
theorem OwnP.push {w W0 w5 : World} {B : Nat} {p : PlV} (h : OwnP w B p) {v : WvV} (hv : OwnV w B v) (hap : ∀ u ∈ p.waves, ∀ b, inA v.A b → ¬ inA u.A b) (hW : Below w.heap.size w W0) {A' : Option Addr} {c' : Nat} (hown : w5.ownsRow B 43 1 (.slice A' (p.waves.length + 1) c') (p.waves.length + 1) (wvCells p.waves ++ wvCells [v])) (hg : W0.grownBy w5 (Value.slice p.WA p.waves.length p.wc).ownBlock) :
    OwnP w5 B ⟨p.size, p.SA, p.sc, p.stash, A', c', p.waves ++ [v]⟩ := by
  have key : ∀ e, e ≠ 43 → Kt w w5 B e := fun e he b hb hlt ⟨cs, hc⟩ => by
    have := hW.size
    rw [hg.block b (by omega) (fun hrow => by
      obtain ⟨_, _, cs', hc'⟩ := h.wv.ty (own_in.1 hrow.symm)
      rw [hc] at hc'
      injection hc' with hc'
      injection hc' with _ h1 _
      exact he h1), hW.block b hlt]
  refine ⟨⟨h.st.1, row_hi h.st.2 (key 67 (by decide))⟩, ⟨rfl, ?_⟩, fun u hu => ?_, fun i j u u' b hi hj hb1 hb2 => ?_⟩
  · rw [wvCells_append]
    simpa using hown
  · rcases List.mem_append.1 hu with hu | hu
    · exact (h.ws u hu).keep (key 70 (by decide)) (key 48 (by decide))
    · simp at hu
      subst hu
      exact hv.keep (key 70 (by decide)) (key 48 (by decide))
  · simp only at hi hj
    by_cases h1 : i < p.waves.length
    · rw [List.getElem?_append_left h1] at hi
      by_cases h2 : j < p.waves.length
      · rw [List.getElem?_append_left h2] at hj
        exact h.ap i j u u' b hi hj hb1 hb2
      · have e : j = p.waves.length := by
          have := (List.getElem?_eq_some_iff.1 hj).1
          simp at this; omega
        subst e
        simp at hj
        subst hj
        exact absurd hb1 (hap u (List.mem_of_getElem? hi) b hb2)
    · have e : i = p.waves.length := by
        have := (List.getElem?_eq_some_iff.1 hi).1
        simp at this; omega
      subst e
      simp at hi
      subst hi
      by_cases h2 : j < p.waves.length
      · rw [List.getElem?_append_left h2] at hj
        exact absurd hb2 (hap u' (List.mem_of_getElem? hj) b hb1)
      · have e : j = p.waves.length := by
          have := (List.getElem?_eq_some_iff.1 hj).1
          simp at this; omega
        exact e.symm
/-- Bytes, scraps, ranges appended to nothing. -/
theorem told_scraps (W : World) (A : Option Addr) (n c : Nat) (l : List S) (hl : l.length = n) (hr : Sc.Rd W W.heap.size A l) (hno : A = none → n = 0 ∧ c = 0) (hn : n * 24 ≤ 140737488355328) :
    ∃ A' c' w2, (Sc.appTold #[26, 26] 26 #[.slice none 0 0, .slice A n c]).run Try.prog W = .ok (.slice A' n c') w2 ∧ Sc.Own w2 W.heap.size A' n c' l ∧ Below W.heap.size W w2 := by
  obtain ⟨i0, hi, hz0, hz1, hz2⟩ := info_parts Sc.info31
  have hown : W.ownsRow W.heap.size 48 3 (.slice none 0 0) 0 [] := World.ownsRow_nil _ _ _ _
  cases A with
  | none =>
    obtain ⟨rfl, rfl⟩ := hno rfl
    obtain rfl := List.eq_nil_of_length_eq_zero hl
    have hrun := run_append_owned_none (P := Try.prog) (w := W) W.heap.size 26 26 48 i0 3 Try.underlying26 hi (.slice none 0 0) 0 [] hown
    exact ⟨none, 0, W, hrun, Sc.Own.nil _ _, Below.refl _ _⟩
  | some ad =>
    obtain ⟨v', w', hrun, h2, h3, _⟩ := run_append_own (P := Try.prog) W W.heap.size 26 26 48 i0 _ 3 24 Try.underlying26 hi hz0 hz1 hz2 rfl (by decide) (.slice none 0 0) 0 [] hown ad n c (Sc.cells l) (by rw [Sc.cells_len, hl]) (hr.cells ad rfl) (Sc.cells_one_cell _) (by unfold maxLen; omega) (by omega) (Nat.le_refl _)
    obtain ⟨A'', c'', hv⟩ : ∃ A cap, v' = .slice A (0 + n) cap := by
      rcases h2.2 with ⟨hv, hn⟩ | ⟨g, cap', cur, hv, _⟩
      · rw [hn]; exact ⟨_, _, hv⟩
      · exact ⟨_, _, hv⟩
    subst hv
    rw [Nat.zero_add] at hrun h2
    refine ⟨A'', c'', w', hrun, ⟨hl, by simpa using h2⟩, (Below.refl _ _).grown h3 (Nat.le_refl _) (fun k hk => by cases hk)⟩
end Go.Proofs.Yteceephenfmdoaa
