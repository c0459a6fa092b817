/-
  KOwnp: texts of one kind, one behind the other.
-/
import Derived.Test.YteceephenfmdoaaKWplan
import Derived.Test.YteceephenfmdoaaMLit
import Derived.Test.YteceephenfmdoaaMTot
import Derived.Deep.AppendLies
/-
  A plan whose rows are all the call's own, each wave in a block beside the others; what stays of it, what is put behind.
-/
namespace Go.Proofs.Yteceephenfmdoaa
open Go.RowKit
theorem row_in {w : World} {base e sz n c : Nat} {A : Option Addr} {xs : List Value} (h : w.ownsRow base e sz (.slice A n c) n xs) {b : Nat} (hb : inA A b) : base ≤ b ∧ b < w.heap.size ∧ ∃ cs, w.heap[b]? = some (Obj.cells cs e (0, 0)) := by
  rcases h.2 with ⟨hv, _⟩ | ⟨g, cap', cur, hv, hbg, hg, _⟩
  · injection hv with ha _ _
    subst ha
    exact absurd hb inA_none
  · injection hv with ha _ _
    subst ha
    have := inA_some.1 hb
    subst this
    exact ⟨hbg, (Array.getElem?_eq_some_iff.1 hg).1, cur, hg⟩
theorem row_mono {w : World} {base base' e sz n : Nat} {v : Value} {xs : List Value} (h : w.ownsRow base e sz v n xs) (hB : base' ≤ base) : w.ownsRow base' e sz v n xs := by
  obtain ⟨h1, h2⟩ := h
  refine ⟨h1, ?_⟩
  rcases h2 with h2 | ⟨g, cap', cur, hv, hbg, hr⟩
  · exact .inl h2
  · exact .inr ⟨g, cap', cur, hv, by omega, hr⟩
theorem row_hi {w w' : World} {base e sz n c : Nat} {A : Option Addr} {xs : List Value} (h : w.ownsRow base e sz (.slice A n c) n xs) (hk : ∀ b, base ≤ b → b < w.heap.size → (∃ cs, w.heap[b]? = some (Obj.cells cs e (0, 0))) → w'.heap[b]? = w.heap[b]?) : w'.ownsRow base e sz (.slice A n c) n xs :=
  row_same h fun b hb => hk b (row_in h hb).1 (row_in h hb).2.1 (row_in h hb).2.2
/-- A wave whose rows are the call's own. -/
structure OwnV (w : World) (base : Nat) (v : WvV) : Prop where
  row : OwnS w base v.A v.steps.length v.c v.steps
  parts : ∀ s ∈ v.steps, Sc.Own w base s.A s.parts.length s.c s.parts
structure OwnP (w : World) (base : Nat) (p : PlV) : Prop where
  st : Own w base p.SA p.stash.length p.sc p.stash
  wv : OwnW w base p.WA p.waves.length p.wc p.waves
  ws : ∀ v ∈ p.waves, OwnV w base v
  ap : ∀ (i j : Nat) u v b, p.waves[i]? = some u → p.waves[j]? = some v → inA u.A b → inA v.A b → i = j
/-- What stays where blocks of a row's type stay. -/
def Kt (w w' : World) (base e : Nat) : Prop := ∀ b, base ≤ b → b < w.heap.size → (∃ cs, w.heap[b]? = some (Obj.cells cs e (0, 0))) → w'.heap[b]? = w.heap[b]?
theorem Kt.of_below {w w' : World} {base e B : Nat} (hb : Below B w w') (hB : w.heap.size ≤ B) : Kt w w' base e := fun b _ h _ => hb.block b (by omega)
theorem Kt.of_box {w w' : World} {base e : Nat} (h : ∀ b, base ≤ b → b < w.heap.size → w'.heap[b]? = w.heap[b]?) : Kt w w' base e := fun b h1 h2 _ => h b h1 h2
theorem OwnV.keep {w w' : World} {base : Nat} {v : WvV} (h : OwnV w base v) (h70 : Kt w w' base 70) (h48 : Kt w w' base 48) : OwnV w' base v := ⟨⟨h.row.1, row_hi h.row.2 h70⟩, fun s hs => ⟨(h.parts s hs).1, row_hi (h.parts s hs).2 h48⟩⟩
theorem OwnV.mono {w : World} {base base' : Nat} {v : WvV} (h : OwnV w base v) (hB : base' ≤ base) : OwnV w base' v := ⟨⟨h.row.1, row_mono h.row.2 hB⟩, fun s hs => (h.parts s hs).mono hB⟩
theorem OwnP.keep {w w' : World} {base : Nat} {p : PlV} (h : OwnP w base p) (h67 : Kt w w' base 67) (h43 : Kt w w' base 43) (h70 : Kt w w' base 70) (h48 : Kt w w' base 48) : OwnP w' base p :=
  ⟨⟨h.st.1, row_hi h.st.2 h67⟩, ⟨h.wv.1, row_hi h.wv.2 h43⟩, fun v hv => (h.ws v hv).keep h70 h48, h.ap⟩
theorem OwnP.below {w w' : World} {base B : Nat} {p : PlV} (h : OwnP w base p) (hb : Below B w w') (hB : w.heap.size ≤ B) : OwnP w' base p := h.keep (.of_below hb hB) (.of_below hb hB) (.of_below hb hB) (.of_below hb hB)
theorem OwnP.box {w w' : World} {base : Nat} {p : PlV} (h : OwnP w base p) (hk : ∀ b, base ≤ b → b < w.heap.size → w'.heap[b]? = w.heap[b]?) : OwnP w' base p := h.keep (.of_box hk) (.of_box hk) (.of_box hk) (.of_box hk)
theorem OwnP.mono {w : World} {base base' : Nat} {p : PlV} (h : OwnP w base p) (hB : base' ≤ base) : OwnP w base' p := ⟨h.st.mono hB, ⟨h.wv.1, row_mono h.wv.2 hB⟩, fun v hv => (h.ws v hv).mono hB, h.ap⟩
theorem OwnS.none {w : World} {base n c : Nat} {A : Option Addr} {l : List StV} (h : OwnS w base A n c l) : A = .none → n = 0 ∧ c = 0 := by
  intro hA
  rcases h.2.2 with ⟨hv, hn⟩ | ⟨g, cap', cur, hv, _⟩
  · injection hv with _ _ hc
    exact ⟨hn, hc⟩
  · injection hv with ha _ _
    rw [hA] at ha; cases ha
theorem OwnW.none {w : World} {base n c : Nat} {A : Option Addr} {l : List WvV} (h : OwnW w base A n c l) : A = .none → n = 0 ∧ c = 0 := by
  intro hA
  rcases h.2.2 with ⟨hv, hn⟩ | ⟨g, cap', cur, hv, _⟩
  · injection hv with _ _ hc
    exact ⟨hn, hc⟩
  · injection hv with ha _ _
    rw [hA] at ha; cases ha
theorem OwnV.ok {w : World} {base : Nat} {v : WvV} (h : OwnV w base v) (hb : ∀ s ∈ v.steps, I64 s.blk) : WvOk w w.heap.size v := by
  refine ⟨fun k s hs => ?_, ?_, h.row.none⟩
  · obtain ⟨b, e, hlt, c0, c1⟩ := h.row.cellAt hs
    have hin := List.mem_of_getElem? hs
    have hp := h.parts s hin
    refine ⟨b, 0, e, hlt, by simpa using c0, by simpa using c1, hp.rd, ?_, hp.none, hb s hin⟩
    have := hp.cap
    unfold maxLen at this
    omega
  · have := h.row.cap
    unfold maxLen at this
    omega
theorem OwnP.ok {w : World} {base : Nat} {p : PlV} (h : OwnP w base p) (hb : ∀ v ∈ p.waves, ∀ s ∈ v.steps, I64 s.blk) (hi : IR p.stash) (hs : I64 p.size) : PlOk w w.heap.size p := by
  refine ⟨h.st.rd, ?_, h.st.none, hi, fun k v hv => ?_, ?_, h.wv.none, hs⟩
  · have := h.st.cap
    unfold maxLen at this
    omega
  · obtain ⟨b, e, hlt, c0⟩ := h.wv.cellAt hv
    have hin := List.mem_of_getElem? hv
    exact ⟨b, 0, e, hlt, by simpa using c0, (h.ws v hin).ok (hb v hin)⟩
  · have := h.wv.cap
    unfold maxLen at this
    omega
/-- A wave put behind. -/
theorem OwnP.push {w W0 w5 : World} {B : Nat} {p : PlV} (h : OwnP w B p) {v : WvV} (hv : OwnV w B v) (hap : ∀ u ∈ p.waves, ∀ b, inA v.A b → ¬ inA u.A b) (hW : Below w.heap.size w W0) {A' : Option Addr} {c' : Nat} (hown : w5.ownsRow B 43 1 (.slice A' (p.waves.length + 1) c') (p.waves.length + 1) (wvCells p.waves ++ wvCells [v])) (hg : W0.grownBy w5 (Value.slice p.WA p.waves.length p.wc).ownBlock) :
    OwnP w5 B ⟨p.size, p.SA, p.sc, p.stash, A', c', p.waves ++ [v]⟩ := by
  have key : ∀ e, e ≠ 43 → Kt w w5 B e := fun e he b hb hlt ⟨cs, hc⟩ => by
    have := hW.size
    rw [hg.block b (by omega) (fun hrow => by
      obtain ⟨_, _, cs', hc'⟩ := h.wv.ty (own_in.1 hrow.symm)
      rw [hc] at hc'
      injection hc' with hc'
      injection hc' with _ h1 _
      exact he h1), hW.block b hlt]
  refine ⟨⟨h.st.1, row_hi h.st.2 (key 67 (by decide))⟩, ⟨rfl, ?_⟩, fun u hu => ?_, fun i j u u' b hi hj hb1 hb2 => ?_⟩
  · rw [wvCells_append]
    simpa using hown
  · rcases List.mem_append.1 hu with hu | hu
    · exact (h.ws u hu).keep (key 70 (by decide)) (key 48 (by decide))
    · simp at hu
      subst hu
      exact hv.keep (key 70 (by decide)) (key 48 (by decide))
  · simp only at hi hj
    by_cases h1 : i < p.waves.length
    · rw [List.getElem?_append_left h1] at hi
      by_cases h2 : j < p.waves.length
      · rw [List.getElem?_append_left h2] at hj
        exact h.ap i j u u' b hi hj hb1 hb2
      · have e : j = p.waves.length := by
          have := (List.getElem?_eq_some_iff.1 hj).1
          simp at this; omega
        subst e
        simp at hj
        subst hj
        exact absurd hb1 (hap u (List.mem_of_getElem? hi) b hb2)
    · have e : i = p.waves.length := by
        have := (List.getElem?_eq_some_iff.1 hi).1
        simp at this; omega
      subst e
      simp at hi
      subst hi
      by_cases h2 : j < p.waves.length
      · rw [List.getElem?_append_left h2] at hj
        exact absurd hb2 (hap u' (List.mem_of_getElem? hj) b hb1)
      · have e : j = p.waves.length := by
          have := (List.getElem?_eq_some_iff.1 hj).1
          simp at this; omega
        exact e.symm
/-- Bytes, scraps, ranges appended to nothing. -/
theorem told_scraps (W : World) (A : Option Addr) (n c : Nat) (l : List S) (hl : l.length = n) (hr : Sc.Rd W W.heap.size A l) (hno : A = none → n = 0 ∧ c = 0) (hn : n * 24 ≤ 140737488355328) :
    ∃ A' c' w2, (Sc.appTold #[26, 26] 26 #[.slice none 0 0, .slice A n c]).run Try.prog W = .ok (.slice A' n c') w2 ∧ Sc.Own w2 W.heap.size A' n c' l ∧ Below W.heap.size W w2 := by
  obtain ⟨i0, hi, hz0, hz1, hz2⟩ := info_parts Sc.info31
  have hown : W.ownsRow W.heap.size 48 3 (.slice none 0 0) 0 [] := World.ownsRow_nil _ _ _ _
  cases A with
  | none =>
    obtain ⟨rfl, rfl⟩ := hno rfl
    obtain rfl := List.eq_nil_of_length_eq_zero hl
    have hrun := run_append_owned_none (P := Try.prog) (w := W) W.heap.size 26 26 48 i0 3 Try.underlying26 hi (.slice none 0 0) 0 [] hown
    exact ⟨none, 0, W, hrun, Sc.Own.nil _ _, Below.refl _ _⟩
  | some ad =>
    obtain ⟨v', w', hrun, h2, h3, _⟩ := run_append_own (P := Try.prog) W W.heap.size 26 26 48 i0 _ 3 24 Try.underlying26 hi hz0 hz1 hz2 rfl (by decide) (.slice none 0 0) 0 [] hown ad n c (Sc.cells l) (by rw [Sc.cells_len, hl]) (hr.cells ad rfl) (Sc.cells_one_cell _) (by unfold maxLen; omega) (by omega) (Nat.le_refl _)
    obtain ⟨A'', c'', hv⟩ : ∃ A cap, v' = .slice A (0 + n) cap := by
      rcases h2.2 with ⟨hv, hn⟩ | ⟨g, cap', cur, hv, _⟩
      · rw [hn]; exact ⟨_, _, hv⟩
      · exact ⟨_, _, hv⟩
    subst hv
    rw [Nat.zero_add] at hrun h2
    refine ⟨A'', c'', w', hrun, ⟨hl, by simpa using h2⟩, (Below.refl _ _).grown h3 (Nat.le_refl _) (fun k hk => by cases hk)⟩
end Go.Proofs.Yteceephenfmdoaa

/-
  A copy reads as its plan does; how many steps there are. Plain.
-/
namespace Go.Proofs.Yteceephenfmdoaa
open Go.RowKit
theorem totS_same {W V : List WvV} (h : W.map WvV.wv = V.map WvV.wv) : totS W = totS V := by
  have e : ∀ W : List WvV, totS W = (W.map WvV.wv).foldl (fun n v => IntKind.i64.wrap (n + v.length)) 0 := by
    intro W
    unfold totS
    rw [List.foldl_map]
    simp [WvV.wv]
  rw [e, e, h]
theorem sumS_le {M : Nat} : ∀ {W : List WvV}, (∀ v ∈ W, v.steps.length ≤ M) → sumS W ≤ W.length * M := by
  intro W
  induction W with
  | nil => intro _; simp [sumS]
  | cons v W ih =>
    intro h
    have h1 := h v (by simp)
    have h2 := ih (fun u hu => h u (by simp [hu]))
    simp only [sumS, List.length_cons, Nat.add_mul]
    omega
theorem le_sumS : ∀ {W : List WvV} {v : WvV}, v ∈ W → v.steps.length ≤ sumS W := by
  intro W
  induction W with
  | nil => intro v h; cases h
  | cons u W ih =>
    intro v h
    rcases List.mem_cons.1 h with rfl | h
    · simp only [sumS]; omega
    · have := ih h
      simp only [sumS]; omega
/-- A copy of a plan reads as a plan. -/
theorem OwnP.ok_of {w0 w : World} {B base : Nat} {p q : PlV} (h : OwnP w base q) (he : q.pln = p.pln) (hp : PlOk w0 B p) : PlOk w w.heap.size q := by
  simp only [PlV.pln, Pln.mk.injEq] at he
  obtain ⟨e0, e1, e2⟩ := he
  refine h.ok (fun v hv s hs => ?_) (by rw [e1]; exact hp.si) (by rw [e0]; exact hp.sz)
  have h1 : v.wv ∈ p.waves.map WvV.wv := by rw [← e2]; exact List.mem_map.2 ⟨v, hv, rfl⟩
  obtain ⟨v', hv', ev⟩ := List.mem_map.1 h1
  have h2 : s.st ∈ v'.wv := by rw [ev]; exact List.mem_map.2 ⟨s, hs, rfl⟩
  obtain ⟨s', hs', es⟩ := List.mem_map.1 h2
  obtain ⟨k, hk⟩ := List.getElem?_of_mem hv'
  obtain ⟨j, hj⟩ := List.getElem?_of_mem hs'
  obtain ⟨_, _, _, _, _, hwv⟩ := hp.wv k v' hk
  obtain ⟨_, _, _, _, _, _, hst⟩ := hwv.rd j s' hj
  have := hst.b
  have e : s'.blk = s.blk := congrArg Prod.fst es
  rw [← e]
  exact this
end Go.Proofs.Yteceephenfmdoaa

/-
  A plan of the call's own, of which some number is stored anew, reads as some plan of the same form.
-/
namespace Go.Proofs.Yteceephenfmdoaa
open Go.RowKit
/-- How large a plan is. -/
def Sml (p : PlV) (M K : Nat) : Prop := p.stash.length ≤ 100000 ∧ p.waves.length ≤ 100000 ∧ ∀ v ∈ p.waves, v.steps.length ≤ M ∧ ∀ s ∈ v.steps, s.parts.length ≤ K
theorem Sml.more {p : PlV} {M K M' : Nat} (h : Sml p M K) (hM : M ≤ M') : Sml p M' K := ⟨h.1, h.2.1, fun v hv => ⟨Nat.le_trans (h.2.2 v hv).1 hM, (h.2.2 v hv).2⟩⟩
theorem choose_len {α : Type} (n : Nat) (Q : Nat → α → Prop) (h : ∀ i, i < n → ∃ x, Q i x) : ∃ l : List α, l.length = n ∧ ∀ k x, l[k]? = some x → Q k x := by
  induction n with
  | zero => exact ⟨[], rfl, fun k x hx => by simp at hx⟩
  | succ n ih =>
    obtain ⟨l, hl, hq⟩ := ih (fun i hi => h i (by omega))
    obtain ⟨x, hx⟩ := h n (by omega)
    refine ⟨l ++ [x], by simp [hl], fun k y hy => ?_⟩
    by_cases hk : k < l.length
    · rw [List.getElem?_append_left hk] at hy
      exact hq k y hy
    · rw [List.getElem?_append_right (by omega)] at hy
      have e : k - l.length = 0 := by
        by_cases h0 : k - l.length = 0
        · exact h0
        · rw [List.getElem?_eq_none (by simp; omega)] at hy; cases hy
      rw [e] at hy
      simp at hy; subst hy
      have : k = n := by omega
      subst this
      exact hx
/-- From a block on, of what was there, numbers are numbers and slices stay. -/
structure Trn (w w' : World) (lo : Nat) : Prop where
  size : w.heap.size ≤ w'.heap.size
  int : ∀ a : Addr, lo ≤ a.block → ∀ y : Int, w.cell? a = some (.int .i64 y) → ∃ y' : Int, w'.cell? a = some (.int .i64 y') ∧ (I64 y → I64 y')
  sl : ∀ a : Addr, lo ≤ a.block → ∀ A n c, w.cell? a = some (.slice A n c) → w'.cell? a = some (.slice A n c)
theorem Trn.refl (w : World) (lo : Nat) : Trn w w lo := ⟨Nat.le_refl _, fun _ _ y h => ⟨y, h, id⟩, fun _ _ _ _ _ h => h⟩
theorem Trn.trans {w w' w'' : World} {lo : Nat} (h : Trn w w' lo) (k : Trn w' w'' lo) : Trn w w'' lo :=
  ⟨Nat.le_trans h.size k.size, fun a ha y hy => by
    obtain ⟨y', h1, h2⟩ := h.int a ha y hy
    obtain ⟨y'', h3, h4⟩ := k.int a ha y' h1
    exact ⟨y'', h3, fun e => h4 (h2 e)⟩, fun a ha A n c hc => k.sl a ha A n c (h.sl a ha A n c hc)⟩
theorem Trn.below {w w' : World} {lo B : Nat} (h : Below B w w') (hB : w.heap.size ≤ B) : Trn w w' lo :=
  ⟨h.size, fun a _ y hy => ⟨y, (h.cell (by have := World.block_lt_of_cell? w a hy; omega)).trans hy, id⟩, fun a _ A n c hc => (h.cell (by have := World.block_lt_of_cell? w a hc; omega)).trans hc⟩
theorem Trn.box {w w' : World} {lo : Nat} (hs : w.heap.size ≤ w'.heap.size) (h : ∀ b, lo ≤ b → w'.heap[b]? = w.heap[b]?) : Trn w w' lo :=
  ⟨hs, fun _ ha y hy => ⟨y, (World.cell?_of_block (h _ ha)).trans hy, id⟩, fun _ ha _ _ _ hc => (World.cell?_of_block (h _ ha)).trans hc⟩
theorem Trn.set {w : World} {lo : Nat} {a0 : Addr} {y0 x0 : Int} (h0 : w.cell? a0 = some (.int .i64 y0)) (hx : I64 x0) : Trn w (w.setCell a0 (.int .i64 x0)) lo := by
  refine ⟨by simp, fun a _ y hy => ?_, fun a _ A n c hc => ?_⟩
  · by_cases e : a = a0
    · subst e
      exact ⟨x0, World.cell?_setCell_same _ _ _ h0, fun _ => hx⟩
    · exact ⟨y, (World.cell?_setCell_other w a0 a _ (fun h => e h.symm)).trans hy, id⟩
  · have e : a0 ≠ a := fun h => by
      rw [h, hc] at h0
      cases h0
    exact (World.cell?_setCell_other w a0 a _ e).trans hc
theorem parts_turned {w w' : World} {lo n c : Nat} {A : Option Addr} {l : List S} (h : Sc.Own w lo A n c l) (ht : Trn w w' lo) : ∃ l' : List S, l'.length = l.length ∧ Sc.Rd w' w'.heap.size A l' := by
  obtain ⟨l', hl, hq⟩ := choose_len l.length (fun k (s : S) => ∃ b off, A = some ⟨b, off, none⟩ ∧ b < w'.heap.size ∧ w'.cell? ⟨b, off + k * 3, none⟩ = some (.int .i64 s.src) ∧ w'.cell? ⟨b, off + k * 3 + 1, none⟩ = some (.int .i64 s.at_) ∧ w'.cell? ⟨b, off + k * 3 + 2, none⟩ = some (.int .i64 s.len)) (by
    intro k hk
    obtain ⟨s, hs⟩ := Sc.get_some l k hk
    obtain ⟨b, off, rfl, hb, d0, d1, d2⟩ := h.rd k s hs
    have hlo := (row_in h.2 (inA_some.2 rfl)).1
    obtain ⟨y0, e0, _⟩ := ht.int ⟨b, off + k * 3, none⟩ hlo _ d0
    obtain ⟨y1, e1, _⟩ := ht.int ⟨b, off + k * 3 + 1, none⟩ hlo _ d1
    obtain ⟨y2, e2, _⟩ := ht.int ⟨b, off + k * 3 + 2, none⟩ hlo _ d2
    exact ⟨⟨y0, y1, y2⟩, b, off, rfl, Nat.lt_of_lt_of_le hb ht.size, e0, e1, e2⟩)
  exact ⟨l', hl, hq⟩
theorem wave_turned {w w' : World} {lo : Nat} {v : WvV} (h : OwnV w lo v) (ht : Trn w w' lo) (hb : ∀ s ∈ v.steps, I64 s.blk) : ∃ v' : WvV, v'.A = v.A ∧ v'.c = v.c ∧ v'.steps.length = v.steps.length ∧ WvOk w' w'.heap.size v' ∧ ∀ K, (∀ s ∈ v.steps, s.parts.length ≤ K) → ∀ s ∈ v'.steps, s.parts.length ≤ K := by
  obtain ⟨l', hl, hq⟩ := choose_len v.steps.length (fun k (t : StV) => ∃ s, v.steps[k]? = some s ∧ t.parts.length = s.parts.length ∧ ∃ b off, v.A = some ⟨b, off, none⟩ ∧ b < w'.heap.size ∧
    w'.cell? ⟨b, off + k * 2, none⟩ = some (.int .i64 t.blk) ∧ w'.cell? ⟨b, off + k * 2 + 1, none⟩ = some (.slice t.A t.parts.length t.c) ∧ StOk w' w'.heap.size t) (by
    intro k hk
    obtain ⟨s, hs⟩ := Sc.get_some v.steps k hk
    obtain ⟨b, e, hlt, c0, c1⟩ := h.row.cellAt hs
    have hlo := (h.row.ty (b := b) (by rw [e]; exact inA_some.2 rfl)).1
    have hin := List.mem_of_getElem? hs
    obtain ⟨y0, e0, i0⟩ := ht.int ⟨b, k * 2, none⟩ hlo _ c0
    have e1 := ht.sl ⟨b, k * 2 + 1, none⟩ hlo _ _ _ c1
    have hp := h.parts s hin
    obtain ⟨pl, hpl, hpr⟩ := parts_turned hp ht
    have hc := hp.cap
    unfold maxLen at hc
    refine ⟨⟨y0, s.A, s.c, pl⟩, s, hs, hpl, b, 0, e, Nat.lt_of_lt_of_le hlt ht.size, by simpa using e0, by simpa [hpl] using e1, hpr, by simp only [hpl]; omega, fun hA => ?_, i0 (hb s hin)⟩
    have := hp.none hA
    simp only [hpl]
    exact this)
  refine ⟨⟨v.A, v.c, l'⟩, rfl, rfl, hl, ⟨fun k t ht' => ?_, ?_, fun hA => ?_⟩, fun K hK t ht' => ?_⟩
  · obtain ⟨_, _, _, hh⟩ := hq k t ht'
    exact hh
  · have hc := h.row.cap
    unfold maxLen at hc
    simp only [hl]; omega
  · simp only [hl]
    exact h.row.none hA
  · obtain ⟨k, hk⟩ := List.getElem?_of_mem ht'
    obtain ⟨s, hs, hp, _⟩ := hq k t hk
    rw [hp]
    exact hK s (List.mem_of_getElem? hs)
theorem OwnP.turned {w w' : World} {lo : Nat} {p : PlV} (h : OwnP w lo p) (ht : Trn w w' lo) (hb : ∀ v ∈ p.waves, ∀ s ∈ v.steps, I64 s.blk) (hi : IR p.stash) (hs : I64 p.size) :
    ∃ q : PlV, PlOk w' w'.heap.size q ∧ q.cells = p.cells ∧ ∀ M K, Sml p M K → Sml q M K := by
  obtain ⟨st, hsl, hsq⟩ := choose_len p.stash.length (fun k (r : R) => ∃ b off, p.SA = some ⟨b, off, none⟩ ∧ b < w'.heap.size ∧ w'.cell? ⟨b, off + k * 2, none⟩ = some (.int .i64 r.1) ∧ w'.cell? ⟨b, off + k * 2 + 1, none⟩ = some (.int .i64 r.2) ∧ I64 r.1 ∧ I64 r.2) (by
    intro k hk
    obtain ⟨r, hr⟩ := Sc.get_some p.stash k hk
    obtain ⟨b, off, e, hlt, d0, d1⟩ := h.st.rd k r hr
    have hlo := (row_in h.st.2 (b := b) (by rw [e]; exact inA_some.2 rfl)).1
    have hI := hi r (List.mem_of_getElem? hr)
    obtain ⟨y0, e0, i0⟩ := ht.int ⟨b, off + k * 2, none⟩ hlo _ d0
    obtain ⟨y1, e1, i1⟩ := ht.int ⟨b, off + k * 2 + 1, none⟩ hlo _ d1
    exact ⟨(y0, y1), b, off, e, Nat.lt_of_lt_of_le hlt ht.size, e0, e1, i0 hI.1, i1 hI.2⟩)
  obtain ⟨wv, hwl, hwq⟩ := choose_len p.waves.length (fun k (u : WvV) => ∃ v, p.waves[k]? = some v ∧ u.steps.length = v.steps.length ∧ (∀ K, (∀ s ∈ v.steps, s.parts.length ≤ K) → ∀ s ∈ u.steps, s.parts.length ≤ K) ∧ ∃ b off, p.WA = some ⟨b, off, none⟩ ∧ b < w'.heap.size ∧ w'.cell? ⟨b, off + k, none⟩ = some (.slice u.A u.steps.length u.c) ∧ WvOk w' w'.heap.size u) (by
    intro k hk
    obtain ⟨v, hv⟩ := Sc.get_some p.waves k hk
    obtain ⟨b, e, hlt, c0⟩ := h.wv.cellAt hv
    have hlo := (h.wv.ty (b := b) (by rw [e]; exact inA_some.2 rfl)).1
    have hin := List.mem_of_getElem? hv
    obtain ⟨u, u1, u2, u3, u4, u5⟩ := wave_turned (h.ws v hin) ht (hb v hin)
    refine ⟨u, v, hv, u3, u5, b, 0, e, Nat.lt_of_lt_of_le hlt ht.size, ?_, u4⟩
    rw [u1, u2, u3, Nat.zero_add]
    exact ht.sl ⟨b, k, none⟩ hlo _ _ _ c0)
  have c1 := h.st.cap
  have c2 := h.wv.cap
  unfold maxLen at c1 c2
  refine ⟨⟨p.size, p.SA, p.sc, st, p.WA, p.wc, wv⟩, ⟨fun k r hr => ?_, by simp only [hsl]; omega, fun hA => by simp only [hsl]; exact h.st.none hA, fun r hr => ?_, fun k u hu => ?_, by simp only [hwl]; omega, fun hA => by simp only [hwl]; exact h.wv.none hA, hs⟩, by simp only [PlV.cells, hsl, hwl], fun M K hS => ⟨by simp only [hsl]; exact hS.1, by simp only [hwl]; exact hS.2.1, fun u hu => ?_⟩⟩
  · obtain ⟨b, off, e, hlt, d0, d1, _⟩ := hsq k r hr
    exact ⟨b, off, e, hlt, d0, d1⟩
  · obtain ⟨k, hk⟩ := List.getElem?_of_mem hr
    obtain ⟨_, _, _, _, _, _, hI⟩ := hsq k r hk
    exact hI
  · obtain ⟨_, _, _, _, hh⟩ := hwq k u hu
    exact hh
  · obtain ⟨k, hk⟩ := List.getElem?_of_mem hu
    obtain ⟨v, hv, e1, e2, _⟩ := hwq k u hk
    have := hS.2.2 v (List.mem_of_getElem? hv)
    exact ⟨by rw [e1]; exact this.1, e2 K this.2⟩
/-- A plan of the call's own whose waves may share their blocks reads as a plan. -/
theorem rows_ok {w : World} {base : Nat} {p : PlV} (h1 : Own w base p.SA p.stash.length p.sc p.stash) (h2 : OwnW w base p.WA p.waves.length p.wc p.waves) (h3 : ∀ v ∈ p.waves, OwnV w base v) (hb : ∀ v ∈ p.waves, ∀ s ∈ v.steps, I64 s.blk) (hi : IR p.stash) (hs : I64 p.size) : PlOk w w.heap.size p := by
  refine ⟨h1.rd, ?_, h1.none, hi, fun k v hv => ?_, ?_, h2.none, hs⟩
  · have := h1.cap
    unfold maxLen at this
    omega
  · obtain ⟨b, e, hlt, c0⟩ := h2.cellAt hv
    have hin := List.mem_of_getElem? hv
    exact ⟨b, 0, e, hlt, by simpa using c0, (h3 v hin).ok (hb v hin)⟩
  · have := h2.cap
    unfold maxLen at this
    omega
/-- A wave laid anew. -/
theorem OwnP.setWave {w w5 : World} {lo : Nat} {p : PlV} (h : OwnP w lo p) {ω : Nat} {v : WvV} (hv : p.waves[ω]? = some v) {wb : Nat} (hWA : p.WA = some ⟨wb, 0, none⟩) {new : WvV} (_hsz : w.heap.size ≤ w5.heap.size) (hk : ∀ b, b < w.heap.size → ¬ inA v.A b → w5.heap[b]? = w.heap[b]?)
    (hown : OwnS w5 lo new.A new.steps.length new.c new.steps) (hfr : ∀ b, inA new.A b → inA v.A b ∨ w.heap.size ≤ b) (hpn : ∀ s ∈ new.steps, Sc.Own w lo s.A s.parts.length s.c s.parts) :
    OwnP (w5.setCell ⟨wb, ω, none⟩ (.slice new.A new.steps.length new.c)) lo ⟨p.size, p.SA, p.sc, p.stash, p.WA, p.wc, p.waves.set ω new⟩ := by
  have hω := (List.getElem?_eq_some_iff.1 hv).1
  have hvin := List.mem_of_getElem? hv
  obtain ⟨_, hwb, cs43, hc43⟩ := h.wv.ty (b := wb) (by rw [hWA]; exact inA_some.2 rfl)
  have hty : ∀ b, inA v.A b → ∃ cs, w.heap[b]? = some (Obj.cells cs 70 (0, 0)) := fun b hb => ((h.ws v hvin).row.ty hb).2.2
  have h5 : ∀ e, e ≠ 70 → Kt w w5 lo e := fun e he b _ hb ⟨cs, hc⟩ => hk b hb (fun hin => by
    obtain ⟨cs', hc'⟩ := hty b hin
    rw [hc] at hc'
    injection hc' with hc'
    injection hc' with _ h1 _
    exact he h1)
  have h6 : ∀ e, e ≠ 43 → e ≠ 70 → Kt w (w5.setCell ⟨wb, ω, none⟩ (.slice new.A new.steps.length new.c)) lo e := fun e he he7 b hlo hb ⟨cs, hc⟩ => by
    rw [heap_setCell_other _ _ _ _ (fun e2 => by
      simp only at e2
      rw [e2, hc43] at hc
      injection hc with hc
      injection hc with _ h1 _
      exact he h1.symm)]
    exact h5 e he7 b hlo hb ⟨cs, hc⟩
  have hwb5 : w5.heap[wb]? = some (Obj.cells cs43 43 (0, 0)) := (h5 43 (by decide) wb (h.wv.ty (b := wb) (by rw [hWA]; exact inA_some.2 rfl)).1 hwb ⟨_, hc43⟩).trans hc43
  have far : ∀ b, b ≠ wb → (w5.setCell ⟨wb, ω, none⟩ (.slice new.A new.steps.length new.c)).heap[b]? = w5.heap[b]? := fun b hb => heap_setCell_other _ _ _ _ hb
  have hrow5 : OwnW w5 lo p.WA p.waves.length p.wc p.waves := ⟨h.wv.1, row_hi h.wv.2 (h5 43 (by decide))⟩
  refine ⟨⟨h.st.1, row_hi h.st.2 (h6 67 (by decide) (by decide))⟩, ⟨by simp, ?_⟩, fun u hu => ?_, fun i j u u' b hi hj hb1 hb2 => ?_⟩
  · have h1 := hrow5.2
    simp only [hWA] at h1 ⊢
    have h2 := (h1.stored ω (.slice new.A new.steps.length new.c)).1
    simp only [List.length_set]
    have e : wvCells (p.waves.set ω new) = (wvCells p.waves).set ω (.slice new.A new.steps.length new.c) := by simp [wvCells, List.map_set]
    rw [e]
    exact h2
  · obtain ⟨j, hj⟩ := List.getElem?_of_mem hu
    simp only at hj
    by_cases hjω : ω = j
    · subst hjω
      rw [List.getElem?_set_self hω] at hj
      injection hj with hj
      subst hj
      refine ⟨⟨rfl, row_same hown.2 fun b hb => far b fun e => ?_⟩, fun s hs => ⟨(hpn s hs).1, row_hi (hpn s hs).2 (h6 48 (by decide) (by decide))⟩⟩
      obtain ⟨_, _, cs, hc⟩ := hown.ty hb
      rw [e, hwb5] at hc
      injection hc with hc
      injection hc with _ h1 _
      cases h1
    · rw [List.getElem?_set_ne hjω] at hj
      have hu' := h.ws u (List.mem_of_getElem? hj)
      refine ⟨⟨rfl, row_same hu'.row.2 fun b hb => ?_⟩, fun s hs => ⟨(hu'.parts s hs).1, row_hi (hu'.parts s hs).2 (h6 48 (by decide) (by decide))⟩⟩
      obtain ⟨_, hbl, cs, hc⟩ := hu'.row.ty hb
      rw [far b (fun e => by
        rw [e, hc43] at hc
        injection hc with hc
        injection hc with _ h1 _
        cases h1)]
      exact hk b hbl (fun hin => hjω (h.ap ω j v u b hv hj hin hb))
  · simp only at hi hj
    have hold : ∀ (x : Nat) y, ω ≠ x → p.waves[x]? = some y → inA y.A b → ¬ inA new.A b := fun x y hx hy hb hn => by
      rcases hfr b hn with h1 | h1
      · exact hx (h.ap ω x v y b hv hy h1 hb)
      · have := ((h.ws y (List.mem_of_getElem? hy)).row.ty hb).2.1
        omega
    by_cases hiω : ω = i
    · subst hiω
      rw [List.getElem?_set_self hω] at hi
      injection hi with hi
      subst hi
      by_cases hjω : ω = j
      · exact hjω
      · rw [List.getElem?_set_ne hjω] at hj
        exact absurd hb1 (hold j u' hjω hj hb2)
    · rw [List.getElem?_set_ne hiω] at hi
      by_cases hjω : ω = j
      · subst hjω
        rw [List.getElem?_set_self hω] at hj
        injection hj with hj
        subst hj
        exact absurd hb2 (hold i u hiω hi hb1)
      · rw [List.getElem?_set_ne hjω] at hj
        exact h.ap i j u u' b hi hj hb1 hb2
theorem OwnP.evid {w : World} {lo M : Nat} {p : PlV} (h : OwnP w lo p) (hb : ∀ v ∈ p.waves, ∀ s ∈ v.steps, I64 s.blk) (hi : IR p.stash) (hs : I64 p.size) (hS : Sml p M 64) : ∀ wf : World, w.heap.size ≤ wf.heap.size → (∀ b, lo ≤ b → wf.heap[b]? = w.heap[b]?) → ∃ q : PlV, PlOk wf wf.heap.size q ∧ q.cells = p.cells ∧ Sml q M 64 :=
  fun _ _ hk => ⟨p, (h.box fun b hb _ => hk b hb).ok hb hi hs, rfl, hS⟩
theorem set_all {W : List WvV} {P : WvV → Prop} (h : ∀ v ∈ W, P v) {ω : Nat} {new : WvV} (hn : P new) : ∀ v ∈ W.set ω new, P v := fun v hv => by
  rcases List.mem_or_eq_of_mem_set hv with h1 | h1
  · exact h v h1
  · rw [h1]; exact hn
end Go.Proofs.Yteceephenfmdoaa

/-
  'append(append([]api.Step{}, row[:a]...), row[a+1:]...)': the steps but one, in a row of its own. No program in sight but its type numbers.
-/
namespace Go.Proofs.Yteceephenfmdoaa
open Go.RowKit
theorem Trn.drew {w w' : World} {lo : Nat} (h : Trn w w' lo) : Trn w w'.drew lo := ⟨h.size, h.int, h.sl⟩
theorem lit70 {w : World} {base G : Nat} (hG : w.heap[G]? = some (.cells #[] 70 (0, 0))) (hb : base ≤ G) : w.ownsRow base 70 2 (.slice (some ⟨G, 0, none⟩) 0 0) 0 [] :=
  ⟨rfl, .inr ⟨G, 0, #[], rfl, hb, hG, Nat.le_refl _, by unfold maxLen; omega, rfl, rfl⟩⟩
theorem add_off (b o j : Nat) : (⟨b, o, none⟩ : Addr).add j = ⟨b, o + j, none⟩ := by unfold Addr.add; split <;> simp_all
theorem stCells_take : ∀ (l : List StV) (k j : Nat) (u : Value), (stCells (l.take k))[j]? = some u → (stCells l)[j]? = some u := by
  intro l k j u h
  have e : stCells l = stCells (l.take k) ++ stCells (l.drop k) := by rw [← stCells_append, List.take_append_drop]
  rw [e]
  have hlt := (List.getElem?_eq_some_iff.1 h).1
  rw [List.getElem?_append_left hlt]
  exact h
theorem stCells_drop (l : List StV) (k j : Nat) (u : Value) (hk : k ≤ l.length) (h : (stCells (l.drop k))[j]? = some u) : (stCells l)[k * 2 + j]? = some u := by
  have e : stCells l = stCells (l.take k) ++ stCells (l.drop k) := by rw [← stCells_append, List.take_append_drop]
  have hl : (stCells (l.take k)).length = k * 2 := by rw [stCells_len, List.length_take]; omega
  rw [e, List.getElem?_append_right (by omega), hl, Nat.add_sub_cancel_left]
  exact h
theorem ownS_cells {w : World} {base n c b : Nat} {l : List StV} (h : OwnS w base (some ⟨b, 0, none⟩) n c l) {j : Nat} {u : Value} (hu : (stCells l)[j]? = some u) : w.cell? ⟨b, j, none⟩ = some u := by
  have hj := (List.getElem?_eq_some_iff.1 hu).1
  have hc := stCells_len l
  have hl := h.1
  rw [h.2.cellAt j (by omega)]
  exact hu
theorem ownS_part {w : World} {base n c b : Nat} {l : List StV} (h : OwnS w base (some ⟨b, 0, none⟩) n c l) {off k : Nat} {m : List StV} (hm : ∀ j u, (stCells m)[j]? = some u → (stCells l)[k + j]? = some u) (ho : m ≠ [] → off = k) : ∀ j u, (stCells m)[j]? = some u → w.cell? ((⟨b, off, none⟩ : Addr).add j) = some u := fun j u hu => by
  have hne : m ≠ [] := fun e => by subst e; simp [stCells] at hu
  rw [add_off, ho hne]
  exact ownS_cells h (hm j u hu)
theorem run_cut_step (wr : World) (lo : Nat) (stb vc : Nat) (steps : List StV) (h : OwnS wr lo (some ⟨stb, 0, none⟩) steps.length vc steps) (α : Nat) (hα : α < steps.length) (hM : steps.length ≤ 100000) (off c : Nat) (hoff : α + 1 < steps.length → off = (α + 1) * 2) :
    ∃ B1 d1 w1 B2 d2 w2, (Builtin.append_ #[43, 43] 43 #[.slice (some ⟨wr.heap.size, 0, none⟩) 0 0, .slice (some ⟨stb, 0, none⟩) α vc]).run Try.prog (wr.drew.alloc (.cells #[] 70)) = .ok (.slice B1 α d1) w1 ∧
      (Builtin.append_ #[43, 43] 43 #[.slice B1 α d1, .slice (some ⟨stb, off, none⟩) (steps.length - (α + 1)) c]).run Try.prog w1 = .ok (.slice B2 (α + (steps.length - (α + 1))) d2) w2 ∧
      Below wr.heap.size wr w1 ∧ Below wr.heap.size wr w2 ∧ OwnS w2 wr.heap.size B2 (α + (steps.length - (α + 1))) d2 (steps.take α ++ steps.drop (α + 1)) := by
  obtain ⟨j0, ji, jz0, jz1, jz2⟩ := info_parts info70
  have hal : Below wr.heap.size wr (wr.drew.alloc (.cells #[] 70)) := (Below.refl wr.heap.size wr).drew.alloc (Nat.le_refl _) _
  have hsz : (wr.drew.alloc (.cells #[] 70)).heap.size = wr.heap.size + 1 := by simp
  have hstl := (h.ty (b := stb) (inA_some.2 rfl)).2.1
  have h0 : OwnS (wr.drew.alloc (.cells #[] 70)) lo (some ⟨stb, 0, none⟩) steps.length vc steps := h.same (fun b hb => hal.block b (h.ty hb).2.1)
  have hlit : (wr.drew.alloc (.cells #[] 70)).ownsRow wr.heap.size 70 2 (.slice (some ⟨wr.heap.size, 0, none⟩) 0 0) 0 [] := lit70 (heap_alloc_new wr.drew _) (Nat.le_refl _)
  have l1 : (steps.take α).length = α := by rw [List.length_take]; omega
  have l2 : (steps.drop (α + 1)).length = steps.length - (α + 1) := List.length_drop
  obtain ⟨v1, w1, hrun1, hown1, hgrow1, _, hat1⟩ := run_append_own_at (P := Try.prog) (wr.drew.alloc (.cells #[] 70)) wr.heap.size 43 43 70 j0 _ 2 32 Try.underlying43 ji jz0 jz1 jz2 rfl (by decide) (.slice (some ⟨wr.heap.size, 0, none⟩) 0 0) 0 [] hlit ⟨stb, 0, none⟩ α vc (stCells (steps.take α)) (by rw [stCells_len, l1]) (ownS_part h0 (k := 0) (m := steps.take α) (fun j u hu => by rw [Nat.zero_add]; exact stCells_take _ _ _ _ hu) (fun _ => rfl)) (stCells_one_cell _) (by unfold maxLen; omega) (by omega) (by omega)
  rw [Nat.zero_add, List.nil_append] at hown1
  obtain ⟨B1, d1, rfl⟩ := ext_of_ownS hown1
  have hb1 : Below wr.heap.size wr w1 := hal.grown hgrow1 (by omega) (fun k hk => by simp [Value.ownBlock] at hk; omega)
  have h1 : OwnS w1 lo (some ⟨stb, 0, none⟩) steps.length vc steps := h.same (fun b hb => hb1.block b (h.ty hb).2.1)
  have hs1 := hb1.size
  obtain ⟨v2, w2, hrun2, hown2, hgrow2, _, hat2⟩ := run_append_own_at (P := Try.prog) w1 wr.heap.size 43 43 70 j0 _ 2 32 Try.underlying43 ji jz0 jz1 jz2 rfl (by decide) (.slice B1 α d1) α (stCells (steps.take α)) hown1 ⟨stb, off, none⟩ (steps.length - (α + 1)) c (stCells (steps.drop (α + 1))) (by rw [stCells_len, l2]) (ownS_part h1 (k := (α + 1) * 2) (m := steps.drop (α + 1)) (fun j u hu => stCells_drop _ _ _ _ (by omega) hu) (fun hne => hoff (by
    have : 0 < (steps.drop (α + 1)).length := List.length_pos_iff.2 hne
    omega))) (stCells_one_cell _) (by unfold maxLen; omega) (by omega) (by omega)
  obtain ⟨B2, d2, rfl⟩ := ext_of_ownS hown2
  have hb2 : Below wr.heap.size wr w2 := hb1.grown hgrow2 hs1 (fun k hk => by
    rcases hown1.2 with ⟨hv, _⟩ | ⟨g, cap', cur, hv, hbg, _⟩
    · injection hv with ha _ _
      subst ha
      simp [Value.ownBlock] at hk
    · injection hv with ha _ _
      subst ha
      simp [Value.ownBlock] at hk
      omega)
  refine ⟨B1, d1, w1, B2, d2, w2, hrun1, hrun2, hb1, hb2, by rw [List.length_append, l1, l2], ?_⟩
  rw [stCells_append]
  exact hown2
end Go.Proofs.Yteceephenfmdoaa
