/-
  KMakes: texts of one kind, one behind the other.
-/
import Derived.Test.YteceephenfmdoaaKWplan
/-
  Make's loops, plain: the blocks of a target; how many steps read each block; what freeing a block does; a target that rises stashes nothing.
-/
namespace Go.Proofs.Yteceephenfmdoaa
/-- The bytes of a block of a target: where they come from. -/
def blkB (l : List S) (j : Nat) : List (Int × Int) := ((Sc.bts l).drop (64 * j)).take 64
/-- A block that stays as it was. -/
def Stays (l : List S) (j : Nat) : Prop := blkB l j = Sc.sb ⟨0, 64 * (j : Int), min 64 (Sc.tot l - 64 * (j : Int))⟩
theorem bts_eq_joined {a b : List S} (ha : Sc.Ok a) (hb : Sc.Ok b) (ja : Sc.joinL a = a) (jb : Sc.joinL b = b) (h : Sc.bts a = Sc.bts b) : a = b := by rw [← ja, ← jb]; exact Sc.joinL_congr ha hb h
theorem joinL_one (s : S) : Sc.joinL [s] = [s] := by simp [Sc.joinL, Sc.glue_nil]
/-- A step that is made for a block. -/
structure StepOf (l : List S) (s : Stp) : Prop where
  lo : 0 ≤ s.1
  hi : 64 * s.1 < Sc.tot l
  may : Sc.MayP s.2
  join : Sc.joinL s.2 = s.2
  bt : Sc.bts s.2 = blkB l s.1.toNat
  moves : ¬ Stays l s.1.toNat
/-- The next block is cut off. -/
theorem cut_next {l rest : List S} (hl : Sc.MayP l) (hr : Sc.MayP rest) {k : Nat} (hk : 64 * (k : Int) < Sc.tot l) (hb : Sc.bts rest = (Sc.bts l).drop (64 * k)) {n : Int} (hn : n = min 64 (Sc.tot l - 64 * (k : Int))) :
    Sc.cutE rest n = 0 ∧ Sc.MayP (Sc.cutA rest n) ∧ Sc.joinL (Sc.cutA rest n) = Sc.cutA rest n ∧ Sc.bts (Sc.cutA rest n) = blkB l k ∧ Sc.tot (Sc.cutA rest n) = n ∧ Sc.MayP (Sc.cutB rest n) ∧ Sc.bts (Sc.cutB rest n) = (Sc.bts l).drop (64 * (k + 1)) := by
  have l1 := Sc.bts_length hl.1
  have l2 := Sc.bts_length hr.1
  have l3 : (Sc.bts rest).length = (Sc.bts l).length - 64 * k := by rw [hb, List.length_drop]
  have ht : Sc.tot rest = Sc.tot l - 64 * (k : Int) := by omega
  have hE : Sc.cutE rest n = 0 := by
    unfold Sc.cutE
    rw [if_neg (by simpa using hr), if_neg (by omega)]
  have hA : Sc.cutA rest n = Sc.joinL (Sc.partL rest 0 n) := by unfold Sc.cutA; rw [if_pos hE]
  have hB : Sc.cutB rest n = Sc.joinL (Sc.partL rest n (Sc.tot rest)) := by unfold Sc.cutB; rw [if_pos hE]
  have o1 := Sc.partL_ok hr.1 0 n
  have o2 := Sc.partL_ok hr.1 n (Sc.tot rest)
  have b1 := Sc.bts_partL hr.1 0 n
  have b2 := Sc.bts_partL hr.1 n (Sc.tot rest)
  have t1 := Sc.tot_partL hr.1 0 n (by omega) (by omega) (by omega)
  have t2 := Sc.tot_partL hr.1 n (Sc.tot rest) (by omega) (by omega) (by omega)
  have hrm := hr.2
  refine ⟨hE, ?_, ?_, ?_, ?_, ?_, ?_⟩
  · rw [hA]; exact Sc.may_joinL o1 (by omega)
  · rw [hA]; exact Sc.joinL_joinL o1
  · rw [hA, Sc.bts_joinL o1, b1]
    unfold blkB
    simp only [Int.toNat_zero, List.drop_zero]
    rw [hb]
    by_cases h : 64 ≤ Sc.tot l - 64 * (k : Int)
    · have : n.toNat = 64 := by omega
      rw [this]
    · rw [List.take_of_length_le (by rw [List.length_drop]; omega), List.take_of_length_le (by rw [List.length_drop]; omega)]
  · rw [hA, Sc.tot_joinL, t1]; omega
  · rw [hB]; exact Sc.may_joinL o2 (by omega)
  · rw [hB, Sc.bts_joinL o2, b2, List.take_of_length_le (by omega), hb, List.drop_drop]
    by_cases h : 64 ≤ Sc.tot l - 64 * (k : Int)
    · congr 1; omega
    · rw [List.drop_eq_nil_of_le (by omega), List.drop_eq_nil_of_le (by omega)]
/-- Is the piece the very block of the original? -/
theorem stays_iff {l parts : List S} (hl : Sc.MayP l) {k : Nat} (hk : 64 * (k : Int) < Sc.tot l) (hp : Sc.MayP parts) (hj : Sc.joinL parts = parts) (hb : Sc.bts parts = blkB l k) (ht : Sc.tot parts = min 64 (Sc.tot l - 64 * (k : Int))) :
    Stays l k ↔ ∃ x, parts = [x] ∧ x.src = 0 ∧ x.at_ = 64 * (k : Int) := by
  have hm := hl.2
  constructor
  · intro h
    refine ⟨⟨0, 64 * (k : Int), min 64 (Sc.tot l - 64 * (k : Int))⟩, ?_, rfl, rfl⟩
    refine bts_eq_joined hp.1 (fun s hs => ?_) hj (joinL_one _) ?_
    · simp at hs; subst hs; unfold Sc.okS; simp only; omega
    · rw [hb, h, Sc.bts_one]
  · rintro ⟨x, rfl, h0, h1⟩
    unfold Stays
    rw [← hb, Sc.bts_one]
    obtain ⟨src, a, n⟩ := x
    simp only at h0 h1
    subst h0; subst h1
    simp only [Sc.tot] at ht
    congr 2
    omega
/-! ### How many read -/
theorem filter_perm {L : List Int} (hn : L.Nodup) {p : Int → Bool} (h : ∀ j, p j = true → j ∈ L) (hk : ∀ j ∈ L, j ∈ keysL) : (keysL.filter p).length = (L.filter p).length := by
  have hp : (keysL.filter p).Perm (L.filter p) := (List.perm_ext_iff_of_nodup (nodup_keysL.filter _) (hn.filter _)).2 (fun j => by
    simp only [List.mem_filter]
    exact ⟨fun h1 => ⟨h j h1.2, h1.2⟩, fun h1 => ⟨hk j h1.1, h1.2⟩⟩)
  exact hp.length_eq
/-- How many of some steps read a block. -/
def cntL (u : Int → Option StV) (st : List R) (L : List Int) (k : Int) : Nat := (L.filter (readsB u st k)).length
theorem cntL_le (u : Int → Option StV) (st : List R) (L : List Int) (k : Int) : cntL u st L k ≤ L.length := List.length_filter_le _ _
theorem cntL_next {u : Int → Option StV} {st : List R} (L : List Int) {j : Int} {s : StV} (hs : u j = some s) (k : Int) : cntL u st (L ++ [j]) k = cntL u st L k + (if k ∈ readsOf st s then 1 else 0) := by
  unfold cntL
  rw [List.filter_append, List.length_append]
  congr 1
  have e : readsB u st k j = decide (k ∈ readsOf st s) := by unfold readsB; rw [hs]
  by_cases h : k ∈ readsOf st s
  · rw [if_pos h]
    have e2 : readsB u st k j = true := by rw [e]; exact decide_eq_true h
    rw [List.filter_cons, if_pos e2]; rfl
  · rw [if_neg h]
    have e2 : ¬ readsB u st k j = true := by rw [e]; simpa using h
    rw [List.filter_cons, if_neg e2]; rfl
theorem cntL_all {u : Int → Option StV} {st : List R} {L : List Int} (hn : L.Nodup) (h : ∀ j, (u j).isSome = true ↔ j ∈ L) (hk : ∀ j ∈ L, j ∈ keysL) (k : Int) : cntL u st L k = cntU u st k := by
  unfold cntL cntU
  refine (filter_perm hn (fun j hj => ?_) hk).symm
  refine (h j).1 ?_
  unfold readsB at hj
  cases hu : u j with
  | none => rw [hu] at hj; cases hj
  | some s => rfl
/-! ### Freeing a block -/
theorem readsOf_free {u : Int → Option StV} {b : Int} {st st' : List R} (hst : Is st' (FreeP u b st)) (t : StV) (k : Int) (hk : k ∈ readsOf st' t) : k ∈ readsOf st t := by
  unfold readsOf at *
  rw [mem_reads] at *
  obtain ⟨h1, x, ⟨h2, h3, h4⟩, h5⟩ := hk
  exact ⟨h1, x, ⟨h2, h3, fun h => h4 ((hst.2 x).2 ⟨h2, .inl h⟩)⟩, h5⟩
theorem readsOf_free_ne {u : Int → Option StV} {b : Int} {st st' : List R} (hst : Is st' (FreeP u b st)) (t : StV) {k : Int} (hne : k ≠ b) : k ∈ readsOf st' t ↔ k ∈ readsOf st t := by
  refine ⟨readsOf_free hst t k, fun hk => ?_⟩
  unfold readsOf at *
  rw [mem_reads] at *
  obtain ⟨h1, x, ⟨h2, h3, h4⟩, h5⟩ := hk
  refine ⟨h1, x, ⟨h2, h3, fun h => ?_⟩, h5⟩
  rcases ((hst.2 x).1 h).2 with h6 | h6
  · exact h4 h6
  · omega
theorem readsOf_free_own {u : Int → Option StV} {b : Int} {st st' : List R} (hst : Is st' (FreeP u b st)) {j : Int} {t : StV} (ht : u j = some t) (hj : t.blk = j) : b ∉ readsOf st' t := by
  intro hk
  unfold readsOf at hk
  rw [mem_reads] at hk
  obtain ⟨h1, x, ⟨h2, h3, h4⟩, h5⟩ := hk
  exact h4 ((hst.2 x).2 ⟨h2, .inr ⟨h5, j, t, ht, by rw [← hj]; exact fun e => h1 e.symm, h3⟩⟩)
theorem cntU_none {u : Int → Option StV} {st : List R} {k : Int} (h : ∀ j t, u j = some t → k ∉ readsOf st t) : (0 : Int) = (cntU u st k : Int) := by
  have e : cntU u st k = 0 := by
    unfold cntU
    rw [List.length_eq_zero_iff, List.filter_eq_nil_iff]
    intro j _
    unfold readsB
    cases hu : u j with
    | none => simp
    | some t => simpa using h j t hu
  generalize cntU u st k = n at *
  omega
theorem cntU_congr {u : Int → Option StV} {st st' : List R} {k : Int} (h : ∀ j, readsB u st k j = readsB u st' k j) : cntU u st k = cntU u st' k := by
  have e : readsB u st k = readsB u st' k := funext h
  unfold cntU
  rw [e]
theorem TI.freed {u0 : Int → Option StV} {Z : Int → Prop} {st st' : List R} {u : Int → Option StV} {rd : Int → Int} {order : List StV} {b : Int} (h : TI u0 Z st u rd order []) (hb : 0 ≤ b ∧ b < 20000) (hst : Is st' (FreeP u b st)) :
    TI u0 Z st' u (updI rd b 0) order [b] := by
  have hblk : ∀ j t, u j = some t → t.blk = j := fun j t ht => (h.kdom j t (h.dom j t ht)).2.1
  refine ⟨h.dom, h.kdom, h.part, h.ord0, h.nod, fun k k0 k1 => ?_, fun c hc => ?_, h.pw.imp (fun {s t} h1 h2 => h1 (readsOf_free hst t _ h2)), fun s hs j t ht h2 => h.fut s hs j t ht (readsOf_free hst t _ h2), fun c hc h0 => ?_⟩
  · by_cases hk : k = b
    · have e1 : updI rd b 0 k = 0 := by unfold updI; rw [if_pos hk]
      have e2 := cntU_none (u := u) (st := st') (k := k) fun j t ht => by rw [hk]; exact readsOf_free_own hst ht (hblk j t ht)
      exact e1.trans e2
    · have e1 : updI rd b 0 k = rd k := by unfold updI; rw [if_neg hk]
      rw [e1, h.rdc k k0 k1]
      exact congrArg (fun (n : Nat) => (n : Int)) (cntU_congr fun j => by
        unfold readsB
        cases hu : u j with
        | none => rfl
        | some t => exact decide_eq_decide.2 (readsOf_free_ne hst t hk).symm)
  · simp at hc
    subst hc
    exact ⟨hb, by simp [updI]⟩
  · by_cases hcb : c = b
    · exact .inl (by simp [hcb])
    · have e1 : updI rd b 0 c = rd c := by unfold updI; rw [if_neg hcb]
      rw [e1] at h0
      rcases h.prog c hc h0 with h1 | h1
      · cases h1
      · exact .inr h1
/-! ### A target that rises -/
/-- The bytes of the original come in rising order. -/
def Rises (l : List S) : Prop := (Sc.bts l).Pairwise fun a b => a.1 = 0 → b.1 = 0 → a.2 < b.2
theorem bts_need {parts : List S} (_h : Sc.Ok parts) (x : Int) : Need parts x ↔ (0, x) ∈ Sc.bts parts := by
  constructor
  · rintro ⟨s, hs, h0, h1, h2⟩
    refine List.mem_flatMap.2 ⟨s, hs, List.mem_map.2 ⟨(x - s.at_).toNat, List.mem_range.2 (by omega), ?_⟩⟩
    simp only [Prod.mk.injEq]
    exact ⟨h0, by omega⟩
  · intro hq
    obtain ⟨s, hs, hq⟩ := List.mem_flatMap.1 hq
    obtain ⟨h0, h1, h2⟩ := sb_mem s _ hq
    exact ⟨s, hs, h0.symm, h1, h2⟩
theorem mem_blkB {l : List S} {j : Nat} {q : Int × Int} (h : q ∈ blkB l j) : ∃ t : Nat, 64 * j ≤ t ∧ t < 64 * j + 64 ∧ (Sc.bts l)[t]? = some q := by
  unfold blkB at h
  obtain ⟨i, hi⟩ := List.mem_iff_getElem?.1 h
  have hl := (List.getElem?_eq_some_iff.1 hi).1
  rw [List.length_take] at hl
  rw [List.getElem?_take_of_lt (by omega), List.getElem?_drop] at hi
  exact ⟨64 * j + i, by omega, by omega, hi⟩
theorem rises_lt {l : List S} (h : Rises l) {t t' : Nat} {x x' : Int} (h1 : (Sc.bts l)[t]? = some (0, x)) (h2 : (Sc.bts l)[t']? = some (0, x')) (hx : x < x') : t < t' := by
  have a1 := List.getElem?_eq_some_iff.1 h1
  have a2 := List.getElem?_eq_some_iff.1 h2
  by_cases hlt : t < t'
  · exact hlt
  · exfalso
    by_cases he : t = t'
    · subst he
      rw [h1] at h2
      injection h2 with h2
      injection h2 with _ h2
      omega
    · have h3 := List.pairwise_iff_getElem.1 h t' t a2.1 a1.1 (by omega)
      rw [a2.2, a1.2] at h3
      have := h3 rfl rfl
      omega
/-- Steps that all wait for one another do not rise. -/
theorem no_ring {l : List S} (hr : Rises l) {u : Int → Option StV} (hu : ∀ j s, u j = some s → (0 ≤ j ∧ j < 20000) ∧ s.blk = j ∧ Sc.Ok s.parts ∧ Sc.bts s.parts = blkB l j.toNat) (hw : ∀ c, (u c).isSome = true → ∃ j s, u j = some s ∧ c ∈ readsOf [] s) : ∀ c, u c = none := by
  -- what is read, and where it stands in the target
  have key : ∀ j s c, u j = some s → c ∈ readsOf [] s → c ≠ j ∧ ∃ (t : Nat) (x : Int), 64 * j ≤ t ∧ (t : Int) < 64 * j + 64 ∧ (Sc.bts l)[t]? = some (0, x) ∧ x / 64 = c := fun j s c hs hc => by
    obtain ⟨h1, h2, h3, h4⟩ := hu j s hs
    unfold readsOf at hc
    rw [mem_reads] at hc
    obtain ⟨h5, x, ⟨_, h6, _⟩, h7⟩ := hc
    rw [bts_need h3, h4] at h6
    obtain ⟨t, t1, t2, t3⟩ := mem_blkB h6
    exact ⟨by rw [← h2]; exact h5, t, x, by omega, by omega, t3, h7⟩
  -- none reads a later block
  have up : ∀ (n : Nat) j s c, j.toNat ≤ n → u j = some s → c ∈ readsOf [] s → ¬ j < c := by
    intro n
    induction n with
    | zero =>
      intro j s c hj hs hc hlt
      obtain ⟨j', s', hs', hc'⟩ := hw j (by rw [hs]; rfl)
      obtain ⟨_, t, x, t1, t2, t3, t4⟩ := key j s c hs hc
      obtain ⟨hne, t', x', t1', t2', t3', t4'⟩ := key j' s' j hs' hc'
      have := rises_lt hr t3' t3 (by omega)
      have := (hu j s hs).1
      have := (hu j' s' hs').1
      omega
    | succ n ih =>
      intro j s c hj hs hc hlt
      obtain ⟨j', s', hs', hc'⟩ := hw j (by rw [hs]; rfl)
      obtain ⟨_, t, x, t1, t2, t3, t4⟩ := key j s c hs hc
      obtain ⟨hne, t', x', t1', t2', t3', t4'⟩ := key j' s' j hs' hc'
      have h1 := rises_lt hr t3' t3 (by omega)
      have h2 := (hu j s hs).1
      have h3 := (hu j' s' hs').1
      exact ih j' s' j (by omega) hs' hc' (by omega)
  -- nor an earlier one
  have down : ∀ (n : Nat) c, 20000 - c.toNat ≤ n → (u c).isSome = true → False := by
    intro n
    induction n with
    | zero =>
      intro c hc hs
      obtain ⟨s, hs⟩ := Option.isSome_iff_exists.1 hs
      have := (hu c s hs).1
      omega
    | succ n ih =>
      intro c hc hs
      obtain ⟨s, hs'⟩ := Option.isSome_iff_exists.1 hs
      obtain ⟨j, s2, hj, hcj⟩ := hw c hs
      have h1 := (key j s2 c hj hcj).1
      have h2 := up j.toNat j s2 c (Nat.le_refl _) hj hcj
      have h3 := (hu c s hs').1
      have h4 := (hu j s2 hj).1
      exact ih j (by omega) (by rw [hj]; rfl)
  intro c
  cases hc : u c with
  | none => rfl
  | some s => exact (down _ c (Nat.le_refl _) (by rw [hc]; rfl)).elim
end Go.Proofs.Yteceephenfmdoaa

/-
  Make, what its loops keep: the target's rows, the steps of the first blocks, the plan that is made; plain.
-/
namespace Go.Proofs.Yteceephenfmdoaa
open Go.RowKit
/-- A row of scraps that reads, old or of its own type. -/
structure RdG (w : World) (B0 : Nat) (A : Option Addr) (l : List S) : Prop where
  rd : Sc.Rd w w.heap.size A l
  ty : l ≠ [] → ∀ b, inA A b → b < B0 ∨ ∃ cs p, w.heap[b]? = some (.cells cs 48 p)
theorem RdG.up {w w' : World} {B0 : Nat} {A : Option Addr} {l : List S} (h : RdG w B0 A l) (_hB : B0 ≤ w.heap.size) (hb : Below w.heap.size w w') : RdG w' B0 A l :=
  ⟨Sc.Rd.up h.rd hb, fun hl b hb' => by
    rcases h.ty hl b hb' with h1 | ⟨cs, p, h1⟩
    · exact .inl h1
    · exact .inr ⟨cs, p, (hb.block b (Array.getElem?_eq_some_iff.1 h1).1).trans h1⟩⟩
theorem RdG.of_own {w : World} {base n c B0 : Nat} {A : Option Addr} {l : List S} (h : Sc.Own w base A n c l) : RdG w B0 A l := by
  refine ⟨h.rd, fun _ b hb => .inr ?_⟩
  rcases h.2.2 with ⟨hv, _⟩ | ⟨g, cap', cur, hv, hbg, hg, _⟩
  · injection hv with ha _ _
    subst ha
    exact absurd hb inA_none
  · injection hv with ha _ _
    subst ha
    have := inA_some.1 hb
    subst this
    exact ⟨cur, _, hg⟩
theorem RdG.bs {w w' : World} {B0 g sb rb : Nat} {u : Int → Option StV} {rd : Int → Int} {SA : Option Addr} {sc : Nat} {stash : List R} {OA : Option Addr} {oc : Nat} {order : List StV} {A : Option Addr} {l : List S} (h : RdG w B0 A l) (hW : Wk w B0 g sb rb u rd SA sc stash OA oc order) (hb : Below B0 w w') (hs : Bs w w' g sb rb OA) : RdG w' B0 A l := by
  by_cases hl : l = []
  · subst hl
    exact ⟨Sc.Rd.nil _ _ _, fun h => absurd rfl h⟩
  have e : ∀ b, inA A b → w'.heap[b]? = w.heap[b]? := fun b hb' => by
    rcases h.ty hl b hb' with h1 | ⟨cs, p, h1⟩
    · exact hb.block b h1
    · obtain ⟨es1, c1, m1⟩ := hW.steps.heap
      obtain ⟨es2, c2, m2⟩ := hW.readers.heap
      refine hs b (Array.getElem?_eq_some_iff.1 h1).1 (fun e => ?_) (fun e => ?_) (fun e => ?_) (fun e => ?_)
      · have h2 := hW.box; rw [← e, h1] at h2; injection h2 with h2; injection h2 with _ h2; cases h2
      · rw [← e, h1] at m1; cases m1
      · rw [← e, h1] at m2; cases m2
      · obtain ⟨_, _, cs, hc⟩ := hW.row.ty e; rw [h1] at hc; injection hc with hc; injection hc with _ hc; cases hc
  refine ⟨Sc.Rd.same h.rd hb.size e, fun _ b hb' => ?_⟩
  rcases h.ty hl b hb' with h1 | ⟨cs, p, h1⟩
  · exact .inl h1
  · exact .inr ⟨cs, p, (e b hb').trans h1⟩
open Classical in
noncomputable def staysB (l : List S) (j : Nat) : Bool := decide (Stays l j)
theorem staysB_of {l : List S} {j : Nat} (h : Stays l j) : staysB l j = true := by unfold staysB; simpa using h
theorem staysB_not {l : List S} {j : Nat} (h : ¬ Stays l j) : staysB l j = false := by unfold staysB; simpa using h
theorem staysB_iff {l : List S} {j : Nat} : staysB l j = true ↔ Stays l j := by unfold staysB; simp
/-- The steps of the first k blocks. -/
structure U0 (l : List S) (k : Nat) (u : Int → Option StV) : Prop where
  step : ∀ j s, u j = some s → j < (k : Int) ∧ s.blk = j ∧ StepOf l s.st
  rest : ∀ j : Nat, j < k → u j = none → Stays l j
theorem U0.zero (l : List S) : U0 l 0 (fun _ => none) := ⟨fun j s h => (by cases h), fun j h => (by omega)⟩
theorem U0.put {l : List S} {k : Nat} {u : Int → Option StV} (h : U0 l k u) {s : StV} (hb : s.blk = k) (hs : StepOf l s.st) : U0 l (k + 1) (updS u s.blk (some s)) := by
  refine ⟨fun j t ht => ?_, fun j hj hu => ?_⟩
  · by_cases hj : j = s.blk
    · subst hj
      rw [updS_same] at ht
      injection ht with ht
      subst ht
      exact ⟨by omega, rfl, hs⟩
    · rw [updS_other _ _ hj] at ht
      obtain ⟨h1, h2⟩ := h.step j t ht
      exact ⟨by omega, h2⟩
  · by_cases hj2 : (j : Int) = s.blk
    · rw [hj2, updS_same] at hu; cases hu
    · rw [updS_other _ _ hj2] at hu
      exact h.rest j (by omega) hu
theorem U0.stay {l : List S} {k : Nat} {u : Int → Option StV} (h : U0 l k u) (hs : Stays l k) : U0 l (k + 1) u := by
  refine ⟨fun j t ht => ?_, fun j hj hu => ?_⟩
  · obtain ⟨h1, h2⟩ := h.step j t ht
    exact ⟨by omega, h2⟩
  · by_cases hjk : j = k
    · subst hjk; exact hs
    · exact h.rest j (by omega) hu
theorem mem_sb0 {x : Int} (h0 : 0 ≤ x) (h1 : x < 64) : ((0 : Int), x) ∈ Sc.sb ⟨0, 0, 64⟩ := by
  refine List.mem_map.2 ⟨x.toNat, List.mem_range.2 (by simp only; omega), ?_⟩
  simp only [Prod.mk.injEq, true_and]; omega
/-- The document's first example. -/
def exL : List S := [⟨0, 64, 64⟩, ⟨0, 0, 64⟩]
theorem ex_blk0 : blkB exL 0 = Sc.sb ⟨0, 64, 64⟩ := by decide
theorem ex_blk1 : blkB exL 1 = Sc.sb ⟨0, 0, 64⟩ := by decide
/-- What a plan that is made is. -/
def MakeP (l : List S) (most : Nat) (p : Pln) : Prop :=
  ∃ (o : List Stp) (stash : List R), p = ⟨Sc.tot l, stash, chunks most (o.map (movedS stash))⟩ ∧ Right stash ∧ (∀ x, In stash x → 0 ≤ x ∧ Need l x) ∧ (∀ s ∈ o, StepOf l s) ∧
    (∀ j : Nat, 64 * (j : Int) < Sc.tot l → (∃ s ∈ o, s.1 = j) ∨ Stays l j) ∧ (o.map Prod.fst).Nodup ∧ o.Pairwise (fun s t => s.1 ∉ reads t.1 t.2 stash) ∧ (Rises l → stash = []) ∧ (l = exL → stash = [(0, 64)])
/-- A target that may be made of so many bytes of the original. -/
structure TargetP (l : List S) (size : Int) : Prop where
  may : Sc.MayP l
  src : ∀ s ∈ l, s.src ≠ 2 ∧ (s.src = 0 → s.at_ + s.len ≤ size)
theorem TargetP.need {l : List S} {size : Int} (h : TargetP l size) {x : Int} (hx : Need l x) : x < size := by
  obtain ⟨s, hs, h0, h1, h2⟩ := hx
  have := (h.src s hs).2 h0
  omega
theorem blk_need {l parts : List S} (hp : Sc.Ok parts) (hl : Sc.Ok l) {j : Nat} (hb : Sc.bts parts = blkB l j) {x : Int} (hx : Need parts x) : Need l x := by
  rw [bts_need hp, hb] at hx
  obtain ⟨t, _, _, h⟩ := mem_blkB hx
  exact (bts_need hl x).2 (List.mem_of_getElem? h)
/-- The work at its beginning. -/
theorem Wk.made (w : World) (B0 : Nat) (hB : B0 ≤ w.heap.size) : Wk (((w.alloc (.map #[] 0)).alloc (.map #[] 0)).alloc (.cells #[.map (some w.heap.size), .map (some (w.heap.size + 1)), .slice none 0 0, .slice none 0 0] 81)) B0 (w.heap.size + 2) w.heap.size (w.heap.size + 1) (fun _ => none) (fun _ => 0) none 0 [] none 0 [] := by
  have z1 : (w.alloc (.map #[] 0)).heap.size = w.heap.size + 1 := by simp
  have z2 : ((w.alloc (.map #[] 0)).alloc (.map #[] 0)).heap.size = w.heap.size + 2 := by simp
  have b1 : Below (w.alloc (.map #[] 0)).heap.size (w.alloc (.map #[] 0)) ((w.alloc (.map #[] 0)).alloc (.map #[] 0)) := (Below.refl _ _).alloc (Nat.le_refl _) _
  have b2 : Below ((w.alloc (.map #[] 0)).alloc (.map #[] 0)).heap.size ((w.alloc (.map #[] 0)).alloc (.map #[] 0)) (((w.alloc (.map #[] 0)).alloc (.map #[] 0)).alloc (.cells #[.map (some w.heap.size), .map (some (w.heap.size + 1)), .slice none 0 0, .slice none 0 0] 81)) := (Below.refl _ _).alloc (Nat.le_refl _) _
  have v1 := VM.made w Try.prog 3 20000
  have v2 := VM.made (w.alloc (.map #[] 0)) Try.prog 3 20000
  rw [z1] at v2
  refine ⟨?_, (v1.same (b1.block _ (by omega))).same (b2.block _ (by omega)), ⟨_, v2.same (b2.block _ (by omega)), fun j _ _ => rfl⟩, by omega, ⟨by omega, hB, by omega⟩, ⟨Rd.nil _ _ _, fun b hb => absurd hb inA_none, by simp, fun _ => ⟨rfl, rfl⟩⟩, OwnS.nil _ _, fun j s h => (by cases h), fun s hs => (by cases hs)⟩
  have h := heap_alloc_new ((w.alloc (.map #[] 0)).alloc (.map #[] 0)) (.cells #[.map (some w.heap.size), .map (some (w.heap.size + 1)), .slice none 0 0, .slice none 0 0] 81)
  rw [z2] at h
  exact h
theorem VR.iter {w : World} {P : Program} {kt : TypeId} {b r M : Nat} {u : Int → Option Value} {L : List Int} {c : Nat} (h : VR w P kt b r M u L c) : ∃ x s e c0, w.heap[r]? = some (.mapIter x s e c0) := by
  obtain ⟨n, D, left, ⟨es, clock, since, seen, c0, _, _, _, _, h1, _⟩, _⟩ := h
  exact ⟨_, _, _, _, h1⟩
theorem Wk.next {w w' : World} {B0 g sb rb : Nat} {u : Int → Option StV} {rd : Int → Int} {SA : Option Addr} {sc : Nat} {stash : List R} {OA : Option Addr} {oc : Nat} {order : List StV} (h : Wk w B0 g sb rb u rd SA sc stash OA oc order) {r : Nat} {x : Option Nat} {s : Nat} {e : Array Nat} {c0 : Nat} (hr : w.heap[r]? = some (.mapIter x s e c0)) (hg : w.grownBy w' (some r)) (hB : B0 ≤ r) :
    Wk w' B0 g sb rb u rd SA sc stash OA oc order ∧ Below B0 w w' := by
  refine ⟨h.other hg.size (fun b o hb ho => hg.block b (Array.getElem?_eq_some_iff.1 hb).1 (fun e => ?_)), (Below.refl B0 w).grown hg h.base (fun k hk => by injection hk with hk; omega)⟩
  injection e with e
  rw [e, hr] at hb
  injection hb with hb
  subst hb
  rcases ho with ⟨cs, p, T, ho, _⟩ | ⟨es, c, ho⟩ <;> cases ho
/-- Behind so many of the blocks that a step reads. -/
def rdQ (rd : Int → Int) (K : List Int) (i : Nat) : Int → Int := fun k => if k ∈ K.take i then rd k + 1 else rd k
theorem rdQ_next {rd : Int → Int} {K : List Int} (hn : K.Nodup) {i : Nat} {k : Int} (hk : K[i]? = some k) : rdQ rd K i k = rd k ∧ updI (rdQ rd K i) k (rd k + 1) = rdQ rd K (i + 1) := by
  have h1 : k ∉ K.take i := fun hin => by
    have e := Sc.take_snoc K i k hk
    have h2 : (K.take (i + 1)).Nodup := hn.sublist (List.take_sublist _ _)
    rw [e, List.nodup_append] at h2
    exact h2.2.2 k hin k (by simp) rfl
  refine ⟨by unfold rdQ; rw [if_neg h1], ?_⟩
  funext j
  unfold updI rdQ
  rw [Sc.take_snoc K i k hk]
  by_cases hj : j = k
  · subst hj; simp
  · simp [hj]
/-! ### The loops that order -/
/-- The bytes that a target has of the original. -/
def mineL (l : List S) : Int := (l.map fun s => if s.src = 0 then s.len else 0).sum
theorem mineL_cons (s : S) (l : List S) : mineL (s :: l) = (if s.src = 0 then s.len else 0) + mineL l := by simp [mineL]
theorem mine_le_tot : ∀ {l : List S}, Sc.Ok l → 0 ≤ mineL l ∧ mineL l ≤ Sc.tot l := by
  intro l
  induction l with
  | nil => intro _; simp [mineL, Sc.tot]
  | cons s l ih =>
    intro h
    have h1 := ih (fun t ht => h t (by simp [ht]))
    have h2 := h s (by simp)
    unfold Sc.okS at h2
    rw [mineL_cons]
    simp only [Sc.tot]
    split <;> omega
theorem cnt_nonneg (p : Int → Prop) (n : Nat) : 0 ≤ cnt p n := by
  induction n with
  | zero => simp [cnt]
  | succ n ih => simp only [cnt]; split <;> omega
theorem cnt_le {p q : Int → Prop} (n : Nat) (h : ∀ x : Int, 0 ≤ x → p x → q x) : cnt p n ≤ cnt q n := by
  induction n with
  | zero => simp [cnt]
  | succ n ih =>
    simp only [cnt]
    by_cases h1 : p n
    · rw [if_pos h1, if_pos (h n (by omega) h1)]; omega
    · rw [if_neg h1]; split <;> omega
theorem need_nil (x : Int) : ¬ Need [] x := by rintro ⟨s, hs, _⟩; cases hs
theorem need_cons (s : S) (l : List S) (x : Int) : Need (s :: l) x ↔ (s.src = 0 ∧ s.at_ ≤ x ∧ x < s.at_ + s.len) ∨ Need l x := by
  constructor
  · rintro ⟨t, ht, h⟩
    rcases List.mem_cons.1 ht with rfl | ht
    · exact .inl h
    · exact .inr ⟨t, ht, h⟩
  · rintro (h | ⟨t, ht, h⟩)
    · exact ⟨s, by simp, h⟩
    · exact ⟨t, by simp [ht], h⟩
theorem cnt_need (n : Nat) : ∀ {l : List S}, Sc.Ok l → cnt (Need l) n ≤ mineL l := by
  intro l
  induction l with
  | nil => intro _; rw [cnt_none n _ fun x _ _ => need_nil x]; simp [mineL]
  | cons s l ih =>
    intro h
    have h1 := ih (fun t ht => h t (by simp [ht]))
    have h2 := h s (by simp)
    unfold Sc.okS at h2
    have e1 := cnt_both (fun x => s.src = 0 ∧ s.at_ ≤ x ∧ x < s.at_ + s.len) (Need l) n
    have e2 := cnt_congr (p := Need (s :: l)) (q := fun x => (s.src = 0 ∧ s.at_ ≤ x ∧ x < s.at_ + s.len) ∨ Need l x) n (fun x _ => need_cons s l x)
    have e3 := cnt_nonneg (fun x => (s.src = 0 ∧ s.at_ ≤ x ∧ x < s.at_ + s.len) ∧ Need l x) n
    have e4 : cnt (fun x => s.src = 0 ∧ s.at_ ≤ x ∧ x < s.at_ + s.len) n ≤ if s.src = 0 then s.len else 0 := by
      by_cases h0 : s.src = 0
      · rw [if_pos h0]
        have e5 := cnt_range s.at_.toNat (s.at_ + s.len).toNat (n + (s.at_ + s.len).toNat) (by omega) (by omega)
        have e6 : cnt (fun x => s.src = 0 ∧ s.at_ ≤ x ∧ x < s.at_ + s.len) n ≤ cnt (fun x => (s.at_.toNat : Int) ≤ x ∧ x < (s.at_ + s.len).toNat) n := cnt_le n fun x _ hx => by omega
        have e7 : cnt (fun x => (s.at_.toNat : Int) ≤ x ∧ x < (s.at_ + s.len).toNat) n ≤ cnt (fun x => (s.at_.toNat : Int) ≤ x ∧ x < (s.at_ + s.len).toNat) (n + (s.at_ + s.len).toNat) := by
          generalize (s.at_ + s.len).toNat = m
          clear e5 e6
          have : ∀ k, cnt (fun x => (s.at_.toNat : Int) ≤ x ∧ x < m) n ≤ cnt (fun x => (s.at_.toNat : Int) ≤ x ∧ x < m) (n + k) := by
            intro k
            induction k with
            | zero => exact Int.le_refl _
            | succ k ih => rw [show n + (k + 1) = (n + k) + 1 from rfl]; simp only [cnt]; split <;> omega
          exact this m
        omega
      · rw [if_neg h0, cnt_none n _ fun x _ _ hx => h0 hx.1]; exact Int.le_refl _
    rw [mineL_cons]
    omega
/-- A stash of needed bytes has no more bytes than the target has of the original. -/
theorem stash_le {l : List S} (hl : Sc.Ok l) {stash : List R} (hR : Right stash) (h : ∀ x, In stash x → Need l x) : tot stash ≤ mineL l := by
  have h1 := tot_cnt stash _ hR (Int.le_refl _) (lastTo (-1) stash).toNat (fun r hr => by
    have h2 : ∀ (m : List R) (a : Int), RightF a m → ∀ r ∈ m, r.2 ≤ lastTo a m := by
      intro m
      induction m with
      | nil => intro a _ r hr; cases hr
      | cons s m ih =>
        intro a h r hr
        obtain ⟨h0, h1, h2⟩ := h
        rcases List.mem_cons.1 hr with rfl | hr
        · have := (tot_le m r.2 h2); simp only [lastTo]; omega
        · simp only [lastTo]; exact ih s.2 h2 r hr
    have := h2 stash (-1) hR r hr
    omega)
  rw [h1]
  exact Int.le_trans (cnt_le _ fun x _ => h x) (cnt_need _ hl)
theorem right_len : ∀ (m : List R) (a : Int), RightF a m → (m.length : Int) ≤ tot m := by
  intro m
  induction m with
  | nil => intro a _; simp [tot]
  | cons s m ih =>
    intro a h
    obtain ⟨h0, h1, h2⟩ := h
    have := ih s.2 h2
    simp only [tot, List.length_cons]
    omega
theorem right_to {stash : List R} (hR : Right stash) {size : Int} (h : ∀ x, In stash x → x < size) : ∀ r ∈ stash, 0 ≤ r.1 ∧ r.2 ≤ size := fun r hr => by
  have h1 := right_mem hR hr
  have h2 := h (r.2 - 1) ⟨r, hr, by omega, by omega⟩
  omega
/-- The steps of all blocks, before any is ordered. -/
theorem TI.start {l : List S} {N : Nat} {u : Int → Option StV} (_hU : U0 l N u) (hK : ∀ j s, u j = some s → (0 ≤ j ∧ j < 3126) ∧ s.blk = j ∧ ∀ x, Need s.parts x → x < 1048576) {rd : Int → Int} {L : List Int} (hn : L.Nodup) (hL : ∀ j, (u j).isSome = true ↔ j ∈ L) (hr : ∀ k, 0 ≤ k → k < 20000 → rd k = cntL u [] L k) :
    TI u (fun c => ((0 : Nat) : Int) ≤ c) [] u rd [] [] := by
  refine ⟨fun _ _ h => h, fun j s hs => ?_, fun _ _ h => .inl h, fun s hs => (by cases hs), by simp, fun k k0 k1 => ?_, fun c hc => (by cases hc), by simp, fun s hs => (by cases hs), fun c hc _ => ?_⟩
  · obtain ⟨h1, h2, h3⟩ := hK j s hs
    exact ⟨by omega, h2, h3⟩
  · rw [hr k k0 k1]
    refine congrArg (fun (n : Nat) => (n : Int)) (cntL_all hn hL (fun j hj => ?_) k)
    obtain ⟨s, hs⟩ := Option.isSome_iff_exists.1 ((hL j).2 hj)
    have := (hK j s hs).1
    exact (mem_keysL j).2 (by omega)
  · obtain ⟨s, hs⟩ := Option.isSome_iff_exists.1 hc
    have := (hK c s hs).1
    exact .inr (by omega)
theorem TI.go {u0 u : Int → Option StV} {rd : Int → Int} {order : List StV} {st : List R} {k : Nat} (h : TI u0 (fun c => (k : Int) ≤ c) st u rd order []) (hk : k < 20000) (h0 : rd k = 0) : TI u0 (fun c => ((k + 1 : Nat) : Int) ≤ c) st u rd order [(k : Int)] :=
  ⟨h.dom, h.kdom, h.part, h.ord0, h.nod, h.rdc, fun c hc => by simp at hc; subst hc; exact ⟨by omega, h0⟩, h.pw, h.fut, fun c hc hz => by
    rcases h.prog c hc hz with h1 | h1
    · cases h1
    · by_cases e : c = k
      · exact .inl (by simp [e])
      · exact .inr (by omega)⟩
theorem TI.skip {u0 u : Int → Option StV} {rd : Int → Int} {order : List StV} {st : List R} {k : Nat} (h : TI u0 (fun c => (k : Int) ≤ c) st u rd order []) (h0 : rd k ≠ 0) : TI u0 (fun c => ((k + 1 : Nat) : Int) ≤ c) st u rd order [] :=
  ⟨h.dom, h.kdom, h.part, h.ord0, h.nod, h.rdc, h.tz, h.pw, h.fut, fun c hc hz => by
    rcases h.prog c hc hz with h1 | h1
    · cases h1
    · by_cases e : c = k
      · subst e; exact absurd hz h0
      · exact .inr (by omega)⟩
/-- What the last loop keeps: the first blocks are all ordered. -/
structure M4 (l : List S) (k : Nat) (u0 u : Int → Option StV) (rd : Int → Int) (stash : List R) (order : List StV) : Prop where
  ti : TI u0 (fun _ => False) stash u rd order []
  gone : ∀ j : Int, j < k → u j = none
  right : Right stash
  ins : ∀ x, In stash x → 0 ≤ x ∧ Need l x
  rise : Rises l → (∀ j, u j = none) ∧ stash = []
  ex : l = exL → (k = 0 ∧ stash = [] ∧ u 0 ≠ none ∧ u 1 ≠ none) ∨ (stash = [(0, 64)] ∧ ∀ j, u j = none)
theorem ex_reads {s : StV} (h : StepOf exL s.st) (hb : s.blk = 0 ∨ s.blk = 1) : (1 - s.blk) ∈ readsOf [] s := by
  have hbt : Sc.bts s.parts = blkB exL s.blk.toNat := h.bt
  have hok : Sc.Ok s.parts := h.may.1
  unfold readsOf
  rw [mem_reads]
  refine ⟨by omega, 64 * (1 - s.blk), ⟨by omega, ?_, in_nil _⟩, by omega⟩
  rw [bts_need hok, hbt]
  rcases hb with hb | hb
  · rw [hb]; show _ ∈ blkB exL 0; rw [ex_blk0]; decide
  · rw [hb]; show _ ∈ blkB exL 1; rw [ex_blk1]; decide
theorem M4.start {l : List S} {N : Nat} {u0 u : Int → Option StV} {rd : Int → Int} {order : List StV} (hU : U0 l N u0) (hNb : ∀ j, (u0 j).isSome = true → j < (N : Int)) (hN : ∀ j : Nat, j < N ↔ 64 * (j : Int) < Sc.tot l) (h : TI u0 (fun c => (N : Int) ≤ c) [] u rd order []) : M4 l 0 u0 u rd [] order := by
  refine ⟨⟨h.dom, h.kdom, h.part, h.ord0, h.nod, h.rdc, h.tz, h.pw, h.fut, fun c hc h0 => ?_⟩, fun j hj => ?_, by unfold Right RightF; trivial, fun x hx => absurd hx (in_nil x), fun hr => ⟨?_, rfl⟩, fun he => .inl ⟨rfl, rfl, ?_⟩⟩
  · rcases h.prog c hc h0 with h1 | h1
    · exact .inl h1
    · obtain ⟨s, hs⟩ := Option.isSome_iff_exists.1 hc
      have := hNb c (by rw [h.dom c s hs]; rfl)
      omega
  · cases hu : u j with
    | none => rfl
    | some s => have := (h.kdom j s (h.dom j s hu)).1; omega
  · refine no_ring hr (fun j s hs => ?_) (fun c hc => ?_)
    · have h1 := h.kdom j s (h.dom j s hs)
      obtain ⟨_, h2, h3⟩ := hU.step j s (h.dom j s hs)
      refine ⟨h1.1, h2, h3.may.1, ?_⟩
      have := h3.bt
      simp only [StV.st] at this
      rw [h2] at this
      exact this
    · obtain ⟨s, hs⟩ := Option.isSome_iff_exists.1 hc
      have hd := h.dom c s hs
      have hk := (h.kdom c s hd).1
      have hN := hNb c (by rw [hd]; rfl)
      have hne : rd c ≠ 0 := fun h0 => by
        rcases h.prog c hc h0 with h1 | h1
        · cases h1
        · omega
      have hrc := h.rdc c hk.1 hk.2
      have hc0 : cntU u [] c ≠ 0 := by omega
      unfold cntU at hc0
      obtain ⟨j, hj⟩ := List.exists_mem_of_length_pos (Nat.pos_of_ne_zero hc0)
      have h2 := (List.mem_filter.1 hj).2
      unfold readsB at h2
      cases hu : u j with
      | none => rw [hu] at h2; cases h2
      | some t => rw [hu] at h2; exact ⟨j, t, hu, by simpa using h2⟩
  · subst he
    have ht : Sc.tot exL = 128 := by decide
    -- both blocks have steps
    have some0 : ∀ j : Nat, j < 2 → ∃ s, u0 j = some s ∧ s.blk = j ∧ StepOf exL s.st := fun j hj => by
      cases hu : u0 j with
      | none =>
        exfalso
        have hst := hU.rest j ((hN j).2 (by rw [ht]; omega)) hu
        unfold Stays at hst
        have : j = 0 ∨ j = 1 := by omega
        rcases this with rfl | rfl
        · rw [ex_blk0] at hst; revert hst; decide
        · rw [ex_blk1] at hst; revert hst; decide
      | some s => obtain ⟨_, h2, h3⟩ := hU.step j s hu; exact ⟨s, rfl, h2, h3⟩
    obtain ⟨s0, a0, b0, d0⟩ := some0 0 (by omega)
    obtain ⟨s1, a1, b1, d1⟩ := some0 1 (by omega)
    have r0 := ex_reads d0 (.inl (by simpa using b0))
    have r1 := ex_reads d1 (.inr (by simpa using b1))
    rw [show (1 : Int) - s0.blk = s1.blk by rw [b0, b1]; rfl] at r0
    rw [show (1 : Int) - s1.blk = s0.blk by rw [b0, b1]; rfl] at r1
    have pw : ∀ x y : StV, x ∈ order → y ∈ order → x ≠ y → x.blk ∉ readsOf [] y ∨ y.blk ∉ readsOf [] x := fun x y hx hy hne => by
      obtain ⟨i, hi, rfl⟩ := List.mem_iff_getElem.1 hx
      obtain ⟨j, hj, rfl⟩ := List.mem_iff_getElem.1 hy
      have hp := List.pairwise_iff_getElem.1 h.pw
      rcases Nat.lt_trichotomy i j with h1 | h1 | h1
      · exact .inl (hp i j hi hj h1)
      · subst h1; exact absurd rfl hne
      · exact .inr (hp j i hj hi h1)
    have hne : s0 ≠ s1 := fun e => by rw [e, b1] at b0; cases b0
    have p0 := h.part 0 s0 (by simpa using a0)
    have p1 := h.part 1 s1 (by simpa using a1)
    rcases p0 with p0 | p0
    · rcases p1 with p1 | p1
      · exact ⟨by rw [p0]; simp, by rw [p1]; simp⟩
      · exact absurd r0 (h.fut s1 p1 0 s0 p0)
    · rcases p1 with p1 | p1
      · exact absurd r1 (h.fut s0 p0 1 s1 p1)
      · rcases pw s0 s1 p0 p1 hne with h1 | h1
        · exact absurd r1 h1
        · exact absurd r0 h1
theorem M4.skip {l : List S} {k : Nat} {u0 u : Int → Option StV} {rd : Int → Int} {stash : List R} {order : List StV} (h : M4 l k u0 u rd stash order) (hk : u k = none) : M4 l (k + 1) u0 u rd stash order :=
  ⟨h.ti, fun j hj => by
    by_cases e : j = k
    · subst e; exact hk
    · exact h.gone j (by omega), h.right, h.ins, h.rise, fun he => by
    rcases h.ex he with ⟨h1, _, h2, _⟩ | h1
    · subst h1; exact absurd hk h2
    · exact .inr h1⟩
/-- Behind the freeing of a block that waits. -/
theorem M4.freed {l : List S} {N k : Nat} {u0 u : Int → Option StV} {rd : Int → Int} {stash stash' : List R} {order : List StV} (h : M4 l k u0 u rd stash order) (hU : U0 l N u0) (hl : Sc.MayP l) (hk : k < 20000) (hs : Is stash' (FreeP u k stash)) :
    TI u0 (fun _ => False) stash' u (updI rd k 0) order [(k : Int)] ∧ Right stash' ∧ ∀ x, In stash' x → 0 ≤ x ∧ Need l x :=
  ⟨h.ti.freed (by omega) hs, hs.1, fun x hx => by
    obtain ⟨h1, h2 | ⟨_, j, s, h3, _, h4⟩⟩ := (hs.2 x).1 hx
    · exact h.ins x h2
    · have h5 := (hU.step j s (h.ti.dom j s h3)).2.2
      exact ⟨h1, blk_need h5.may.1 hl.1 h5.bt h4⟩⟩
theorem M4.took {l : List S} {N k : Nat} {u0 u u' : Int → Option StV} {rd rd' : Int → Int} {stash stash' : List R} {order order' : List StV} (h : M4 l k u0 u rd stash order) (hU : U0 l N u0) (hN : ∀ j : Nat, j < N ↔ 64 * (j : Int) < Sc.tot l) (hk : u k ≠ none) (hs : Is stash' (FreeP u k stash)) (hT : TI u0 (fun _ => False) stash' u' rd' order' []) (hR : Right stash') (hI : ∀ x, In stash' x → 0 ≤ x ∧ Need l x) (hn : ∀ j, u j = none → u' j = none) (hb : u' k = none) : M4 l (k + 1) u0 u' rd' stash' order' :=
  ⟨hT, fun j hj => by
    by_cases e : j = k
    · subst e; exact hb
    · exact hn j (h.gone j (by omega)), hR, hI, fun hr => absurd ((h.rise hr).1 k) hk, fun he => by
    subst he
    have ht : Sc.tot exL = 128 := by decide
    rcases h.ex rfl with ⟨h1, h2, _, h4⟩ | h1
    · subst h1; subst h2
      right
      obtain ⟨s1, hs1⟩ := Option.ne_none_iff_exists'.1 h4
      have hst1 := hU.step 1 s1 (h.ti.dom 1 s1 hs1)
      refine ⟨?_, fun j => ?_⟩
      · have hi : Is [((0 : Int), (64 : Int))] (FreeP u 0 []) := ⟨⟨by decide, by decide, trivial⟩, fun x => ⟨fun hx => ?_, fun hx => ?_⟩⟩
        · exact (show Is stash' (FreeP u 0 []) from hs).uniq hi fun _ => Iff.rfl
        · obtain ⟨r, hr, x1, x2⟩ := hx
          simp at hr; subst hr
          simp only at x1 x2
          refine ⟨x1, .inr ⟨by omega, 1, s1, hs1, by decide, ?_⟩⟩
          have hb1 : Sc.bts s1.parts = blkB exL s1.blk.toNat := hst1.2.2.bt
          have hok : Sc.Ok s1.parts := hst1.2.2.may.1
          rw [bts_need hok, hb1, hst1.2.1]
          show _ ∈ blkB exL 1
          rw [ex_blk1]
          exact mem_sb0 (by omega) (by omega)
        · obtain ⟨x0, h5 | ⟨h5, _⟩⟩ := hx
          · exact absurd h5 (in_nil x)
          · exact ⟨(0, 64), by simp, by simp only; omega, by simp only; omega⟩
      · cases hu : u' j with
        | none => rfl
        | some t =>
          exfalso
          have hd := hT.dom j t hu
          have hj := (hT.kdom j t hd).1
          obtain ⟨h6, h7, h8⟩ := hU.step j t hd
          have hj2 : j < 2 := by have := h8.hi; rw [ht] at this; simp only [StV.st] at this; omega
          have hj1 : j = 1 := by
            by_cases e : j = 0
            · subst e
              have hb' : u' 0 = none := hb
              rw [hb'] at hu; cases hu
            · omega
          subst hj1
          -- none reads it
          have hc : cntU u' stash' 1 = 0 := by
            unfold cntU
            rw [List.length_eq_zero_iff, List.filter_eq_nil_iff]
            intro i _
            unfold readsB
            cases hi : u' i with
            | none => simp
            | some t' =>
              have hd' := hT.dom i t' hi
              have hj' := (hT.kdom i t' hd').1
              obtain ⟨_, g7, g8⟩ := hU.step i t' hd'
              have hi2 : i < 2 := by have := g8.hi; rw [ht] at this; simp only [StV.st] at this; omega
              have hi1 : i = 1 := by
                by_cases e : i = 0
                · subst e
                  have hb' : u' 0 = none := hb
                  rw [hb'] at hi; cases hi
                · omega
              subst hi1
              have := own_not_read (st := stash') (s := t')
              rw [g7] at this
              simpa using this
          have h9 := hT.rdc 1 (by omega) (by omega)
          rw [hc] at h9
          rcases hT.prog 1 (by rw [hu]; rfl) h9 with h10 | h10
          · cases h10
          · exact h10
    · exact absurd (h1.2 k) hk⟩
theorem M4.done {l : List S} {N : Nat} {u0 u : Int → Option StV} {rd : Int → Int} {stash : List R} {order : List StV} (h : M4 l N u0 u rd stash order) (hU : U0 l N u0) (hN : ∀ j : Nat, j < N ↔ 64 * (j : Int) < Sc.tot l) {most : Nat} {p : Pln} (hp : p = ⟨Sc.tot l, stash, chunks most ((order.map StV.st).map (movedS stash))⟩) : MakeP l most p := by
  refine ⟨order.map StV.st, stash, hp, h.right, h.ins, fun s hs => ?_, fun j hj => ?_, ?_, ?_, fun hr => (h.rise hr).2, fun he => ?_⟩
  · obtain ⟨t, ht, rfl⟩ := List.mem_map.1 hs
    exact (hU.step _ t (h.ti.ord0 t ht).1).2.2
  · have hj' := (hN j).2 hj
    cases hu : u0 j with
    | none => exact .inr (hU.rest j hj' hu)
    | some s =>
      left
      rcases h.ti.part j s hu with h1 | h1
      · rw [h.gone j (by omega)] at h1; cases h1
      · exact ⟨s.st, List.mem_map.2 ⟨s, h1, rfl⟩, (h.ti.kdom j s hu).2.1⟩
  · rw [List.map_map]; exact h.ti.nod
  · rw [List.pairwise_map]; exact h.ti.pw
  · rcases h.ex he with ⟨h1, _⟩ | h1
    · exfalso
      subst h1
      have := (hN 0).2 (by rw [he]; decide)
      omega
    · exact h1.1
end Go.Proofs.Yteceephenfmdoaa
