/-
  Where bytes stand now, plain: places in a target, the runs that stand there for the first time, what is moved; no program in sight.
-/
import Derived.Test.YtdpjblepcpjomaaSBts
import Derived.Test.YtdpjblepcpjomaaRPlain
namespace Go.Proofs.Ytdpjblepcpjomaa.Rb
abbrev S := Sc.S
abbrev B := Int × Int
def pos : List B → B → Option Nat
  | [], _ => none
  | y :: T, x => if y = x then some 0 else (pos T x).map (· + 1)
theorem pos_none {T : List B} {x : B} : pos T x = none ↔ x ∉ T := by
  induction T with
  | nil => simp [pos]
  | cons y T ih =>
    unfold pos
    by_cases h : y = x
    · simp [h]
    · rw [if_neg h]
      simp [ih, Ne.symm h]
theorem pos_append (T U : List B) (x : B) : pos (T ++ U) x = (pos T x).or ((pos U x).map (· + T.length)) := by
  induction T with
  | nil => simp [pos]
  | cons y T ih =>
    rw [List.cons_append, pos, pos]
    by_cases h : y = x
    · simp [h]
    · rw [if_neg h, if_neg h, ih]
      cases pos T x with
      | none => cases pos U x with
        | none => rfl
        | some q => simp; omega
      | some p => rfl
theorem pos_get {T : List B} {x : B} {p : Nat} (h : pos T x = some p) : T[p]? = some x := by
  induction T generalizing p with
  | nil => simp [pos] at h
  | cons y T ih =>
    rw [pos] at h
    split at h
    · rename_i e
      cases h; simp [e]
    · cases hq : pos T x with
      | none => rw [hq] at h; simp at h
      | some q => rw [hq] at h; simp at h; subst h; simpa using ih hq
theorem pos_lt {T : List B} {x : B} {p : Nat} (h : pos T x = some p) : p < T.length := (List.getElem?_eq_some_iff.1 (pos_get h)).1
theorem pos_of {T : List B} {x : B} {p : Nat} (h : T[p]? = some x) (hf : ∀ q, q < p → T[q]? ≠ some x) : pos T x = some p := by
  induction T generalizing p with
  | nil => simp at h
  | cons y T ih =>
    rw [pos]
    cases p with
    | zero => simp at h; simp [h]
    | succ p =>
      have h0 := hf 0 (by omega)
      simp at h0
      rw [if_neg h0, ih (by simpa using h) (fun q hq => by have := hf (q+1) (by omega); simpa using this)]
      rfl
theorem sb_get (s : S) (p : Nat) (h : p < s.len.toNat) : (Sc.sb s)[p]? = some (s.src, s.at_ + (p : Int)) := by
  simp [Sc.sb, h]
theorem pos_sb (s : S) (y : Int) (h0 : s.at_ ≤ y) (h1 : y < s.at_ + s.len) : pos (Sc.sb s) (s.src, y) = some (y - s.at_).toNat := by
  refine pos_of ?_ ?_
  · rw [sb_get s _ (by omega)]
    congr 2; omega
  · intro q hq
    rw [sb_get s q (by omega)]
    intro h
    have := congrArg Prod.snd (Option.some.inj h)
    simp at this
    omega
theorem mem_sb (s : S) (a y : Int) : (a, y) ∈ Sc.sb s ↔ s.src = a ∧ s.at_ ≤ y ∧ y < s.at_ + s.len := by
  simp only [Sc.sb, List.mem_map, List.mem_range, Prod.mk.injEq]
  constructor
  · rintro ⟨i, hi, h1, h2⟩; exact ⟨h1, by omega, by omega⟩
  · rintro ⟨h1, h2, h3⟩; exact ⟨(y - s.at_).toNat, by omega, h1, by omega⟩
theorem mem_bts (l : List S) (a y : Int) : (a, y) ∈ Sc.bts l ↔ ∃ s ∈ l, s.src = a ∧ s.at_ ≤ y ∧ y < s.at_ + s.len := by
  simp only [Sc.bts, List.mem_flatMap, mem_sb]
theorem bts_nil : Sc.bts [] = [] := rfl
theorem bts_take (l : List S) (k : Nat) (s : S) (h : l[k]? = some s) : Sc.bts (l.take (k+1)) = Sc.bts (l.take k) ++ Sc.sb s := by
  rw [Sc.take_snoc l k s h, Sc.bts_append, Sc.bts_one]
/-- The scrap that has a byte first tells its place. -/
theorem pos_at {T : List S} (hT : Sc.Ok T) {k : Nat} {s : S} (hs : T[k]? = some s) {y : Int} (hn : (s.src, y) ∉ Sc.bts (T.take k)) (h0 : s.at_ ≤ y) (h1 : y < s.at_ + s.len) :
    pos (Sc.bts T) (s.src, y) = some (Sc.tot (T.take k) + y - s.at_).toNat := by
  have e : T = T.take k ++ ([s] ++ T.drop (k+1)) := by
    obtain ⟨hk, rfl⟩ := List.getElem?_eq_some_iff.1 hs
    rw [List.singleton_append, ← List.drop_eq_getElem_cons hk, List.take_append_drop]
  have hl := Sc.bts_length (hT.take k)
  have ht := Sc.tot_nonneg _ (hT.take k)
  conv => lhs; rw [e]
  rw [Sc.bts_append, Sc.bts_append, Sc.bts_one, pos_append, pos_append, pos_none.2 hn, pos_sb s y h0 h1]
  simp
  omega
/-! ### What stood already -/
def ownR (s : S) : List R := [(s.at_, s.at_ + s.len)]
def had (src : Int) (l : List S) : List R := l.foldl (fun h s => if s.src = src then eitherR h (ownR s) else h) []
theorem had_take {src : Int} {l : List S} {k : Nat} {s : S} (h : l[k]? = some s) : had src (l.take (k+1)) = if s.src = src then eitherR (had src (l.take k)) (ownR s) else had src (l.take k) := by
  rw [Sc.take_snoc l k s h, had, List.foldl_append]; rfl
theorem in_own (s : S) (y : Int) : In (ownR s) y ↔ s.at_ ≤ y ∧ y < s.at_ + s.len := in_one _ y
theorem had_is (src : Int) {l : List S} (h : Sc.Ok l) : ∀ k, k ≤ l.length → Is (had src (l.take k)) (fun y => (src, y) ∈ Sc.bts (l.take k)) := by
  intro k
  induction k with
  | zero => intro _; exact ⟨trivial, fun y => by simp [had, Sc.bts]; exact in_nil y⟩
  | succ k ih =>
    intro hk
    obtain ⟨s, hs⟩ := Sc.get_some l k (by omega)
    have ih := ih (by omega)
    have ho := h.at_ hs
    unfold Sc.okS at ho
    rw [had_take hs, bts_take l k s hs]
    by_cases hc : s.src = src
    · rw [if_pos hc]
      refine (eitherR_is _ _).congr fun y => ?_
      rw [ih.2 y, in_own, List.mem_append, mem_sb]
      constructor
      · rintro ⟨_, h1 | h1⟩
        · exact .inl h1
        · exact .inr ⟨hc, h1⟩
      · rintro (h1 | h1)
        · refine ⟨?_, .inl h1⟩
          have := right_above ih.1 ((ih.2 y).2 h1); omega
        · exact ⟨by omega, .inr h1.2⟩
    · rw [if_neg hc]
      refine ih.congr fun y => ?_
      rw [List.mem_append, mem_sb]
      exact ⟨.inl, fun h1 => h1.resolve_right fun h2 => hc h2.1⟩
theorem had_len (src : Int) (l : List S) : ∀ k, k ≤ l.length → (had src (l.take k)).length ≤ k := by
  intro k
  induction k with
  | zero => intro _; simp [had]
  | succ k ih =>
    intro hk
    obtain ⟨s, hs⟩ := Sc.get_some l k (by omega)
    have ih := ih (by omega)
    rw [had_take hs]
    split
    · have := eitherR_len (had src (l.take k)) (ownR s)
      simp only [ownR, List.length_cons, List.length_nil] at this
      unfold ownR; omega
    · omega
theorem had_ir (src : Int) {l : List S} (h : Sc.Ok l) (k : Nat) (hk : k ≤ l.length) : IR (had src (l.take k)) := by
  refine Nn.ir ((had_is src h k hk).nn fun y hy => ?_)
  obtain ⟨s, hs, _, _, h3⟩ := (mem_bts _ _ _).1 hy
  have := (h.take k) s hs
  unfold Sc.okS at this; omega
theorem own_ir {s : S} (h : Sc.okS s) : IR (ownR s) := by
  intro r hr
  simp [ownR] at hr; subst hr
  unfold Sc.okS at h; unfold I64; simp only; omega
/-! ### Runs -/
structure Fd where
  src : Int
  fr : Int
  to_ : Int
  at_ : Int
def mkF (s : S) (a : Int) (r : R) : Fd := ⟨s.src, r.1, r.2, a + r.1 - s.at_⟩
def runsK (T : List S) : Nat → List Fd
  | 0 => []
  | k+1 => runsK T k ++ (match T[k]? with | some s => (lessR (ownR s) (had s.src (T.take k))).map (mkF s (Sc.tot (T.take k))) | none => [])
theorem runsK_succ {T : List S} {k : Nat} {s : S} (h : T[k]? = some s) : runsK T (k+1) = runsK T k ++ (lessR (ownR s) (had s.src (T.take k))).map (mkF s (Sc.tot (T.take k))) := by
  rw [runsK, h]
theorem new_len {T : List S} {k : Nat} {s : S} (h : T[k]? = some s) : (lessR (ownR s) (had s.src (T.take k))).length ≤ k + 1 := by
  have h1 := lessL_len (nl (ownR s)) (nl (had s.src (T.take k)))
  have h2 := nl_len (ownR s)
  have h3 := nl_len (had s.src (T.take k))
  have h4 := had_len s.src T k (by have := (List.getElem?_eq_some_iff.1 h).1; omega)
  have h5 : (nl (ownR s)).length * ((nl (had s.src (T.take k))).length + 1) ≤ 1 * (k + 1) := Nat.mul_le_mul (by simpa [ownR] using h2) (by omega)
  unfold lessR; omega
theorem runsK_len (T : List S) : ∀ k, k ≤ T.length → (runsK T k).length ≤ k * (k + 1) := by
  intro k
  induction k with
  | zero => intro _; simp [runsK]
  | succ k ih =>
    intro hk
    obtain ⟨s, hs⟩ := Sc.get_some T k (by omega)
    have ih := ih (by omega)
    rw [runsK_succ hs, List.length_append, List.length_map]
    have h1 := new_len hs
    have h2 : (k+1) * (k+1+1) = k * (k+1) + (k + 1) + (k + 1) := by
      rw [Nat.add_mul, Nat.mul_add k (k+1) 1]; omega
    omega
structure Runs (TB : List B) (F : List Fd) : Prop where
  ok : ∀ f ∈ F, 0 ≤ f.fr ∧ f.fr < f.to_ ∧ 0 ≤ f.at_ ∧ ∀ y, f.fr ≤ y → y < f.to_ → pos TB (f.src, y) = some (f.at_ + y - f.fr).toNat
  all : ∀ a y, (a, y) ∈ TB → ∃ f ∈ F, f.src = a ∧ f.fr ≤ y ∧ y < f.to_
theorem runs_ok {T : List S} (hT : Sc.Ok T) : ∀ k, k ≤ T.length → Runs (Sc.bts (T.take k)) (runsK T k) := by
  intro k
  induction k with
  | zero => intro _; exact ⟨fun f hf => by simp [runsK] at hf, fun a y h => by simp [Sc.bts] at h⟩
  | succ k ih =>
    intro hk
    obtain ⟨s, hs⟩ := Sc.get_some T k (by omega)
    have ih := ih (by omega)
    have ho := hT.at_ hs
    unfold Sc.okS at ho
    have hL := lessR_is (ownR s) (had s.src (T.take k))
    have hH := had_is s.src hT k (by omega)
    have hl := Sc.bts_length (hT.take k)
    have ht := Sc.tot_nonneg _ (hT.take k)
    rw [runsK_succ hs, bts_take T k s hs]
    constructor
    · intro f hf
      rcases List.mem_append.1 hf with hf | hf
      · obtain ⟨h1, h2, h3, h4⟩ := ih.ok f hf
        exact ⟨h1, h2, h3, fun y hy hy' => by rw [pos_append, h4 y hy hy']; rfl⟩
      · obtain ⟨r, hr, rfl⟩ := List.mem_map.1 hf
        obtain ⟨hr1, hr2⟩ := right_mem hL.1 hr
        have hin : ∀ y, r.1 ≤ y → y < r.2 → s.at_ ≤ y ∧ y < s.at_ + s.len ∧ (s.src, y) ∉ Sc.bts (T.take k) := by
          intro y hy hy'
          obtain ⟨_, h2, h3⟩ := (hL.2 y).1 ⟨r, hr, hy, hy'⟩
          obtain ⟨h4, h5⟩ := (in_own s y).1 h2
          exact ⟨h4, h5, fun h6 => h3 ((hH.2 y).2 h6)⟩
        have h0 := hin r.1 (Int.le_refl _) hr2
        refine ⟨by show 0 ≤ r.1; omega, hr2, by show 0 ≤ Sc.tot (T.take k) + r.1 - s.at_; omega, fun y hy hy' => ?_⟩
        obtain ⟨h4, h5, h6⟩ := hin y hy hy'
        show pos _ (s.src, y) = some (Sc.tot (T.take k) + r.1 - s.at_ + y - r.1).toNat
        rw [pos_append, pos_none.2 h6, pos_sb s y h4 h5]
        simp
        omega
    · intro a y h
      by_cases hc : (a, y) ∈ Sc.bts (T.take k)
      · obtain ⟨f, hf, h'⟩ := ih.all a y hc
        exact ⟨f, List.mem_append_left _ hf, h'⟩
      · obtain ⟨rfl, h1, h2⟩ := (mem_sb s a y).1 ((List.mem_append.1 h).resolve_left hc)
        obtain ⟨r, hr, h3⟩ := (hL.2 y).2 ⟨by omega, (in_own s y).2 ⟨h1, h2⟩, fun h4 => hc ((hH.2 y).1 h4)⟩
        exact ⟨mkF s (Sc.tot (T.take k)) r, List.mem_append_right _ (List.mem_map.2 ⟨r, hr, rfl⟩), rfl, h3⟩
/-- The bounds of runs. -/
theorem Runs.bd {T : List S} {F : List Fd} (hT : Sc.MayP T) (h : Runs (Sc.bts T) F) : ∀ f ∈ F, 0 ≤ f.src ∧ f.src ≤ 2 ∧ 0 ≤ f.fr ∧ f.fr < f.to_ ∧ f.to_ ≤ 1099511627776 ∧ 0 ≤ f.at_ ∧ f.at_ + f.to_ - f.fr ≤ Sc.tot T := by
  intro f hf
  obtain ⟨h1, h2, h3, h4⟩ := h.ok f hf
  have h5 := h4 (f.to_ - 1) (by omega) (by omega)
  have h6 := pos_lt h5
  obtain ⟨s, hs, e, _, h7⟩ := (mem_bts T _ _).1 (List.mem_of_getElem? (pos_get h5))
  have h8 := hT.1 s hs
  have h9 := Sc.bts_length hT.1
  unfold Sc.okS at h8
  refine ⟨by omega, by omega, h1, h2, by omega, h3, by omega⟩
/-! ### What is moved -/
def below : List R → Int → Option Int
  | [], _ => none
  | r :: l, y => if r.1 ≤ y ∧ y < r.2 then some (y - r.1) else (below l y).map (· + (r.2 - r.1))
theorem below_none {l : List R} {y : Int} (h : ¬ In l y) : below l y = none := by
  induction l with
  | nil => rfl
  | cons r l ih =>
    rw [in_cons] at h
    rw [below, if_neg (fun h1 => h (.inl h1)), ih (fun h1 => h (.inr h1))]; rfl
theorem below_at {l : List R} {a : Int} (hR : RightF a l) : ∀ {k : Nat} {r : R}, l[k]? = some r → ∀ {y : Int}, r.1 ≤ y → y < r.2 → below l y = some (tot (l.take k) + y - r.1) := by
  induction l generalizing a with
  | nil => intro k r h; simp at h
  | cons q l ih =>
    intro k r hr y h0 h1
    cases k with
    | zero => simp at hr; subst hr; simp [below, h0, h1, tot]
    | succ k =>
      have hr' : l[k]? = some r := by simpa using hr
      have h2 := right_above hR.2.2 ⟨r, List.mem_of_getElem? hr', h0, h1⟩
      rw [below, if_neg (by omega), ih hR.2.2 hr' h0 h1]
      simp [tot]; omega
def mv (TB : List B) (RS : List R) (a : Int) (x : B) : Option B :=
  match pos TB x with
  | some p => some (0, (p : Int))
  | none => if x.1 = 1 then some x else (below RS x.2).map fun d => (1, a + d)
theorem mv_some {TB : List B} {RS : List R} {a : Int} {x : B} {p : Nat} (h : pos TB x = some p) : mv TB RS a x = some (0, (p : Int)) := by simp [mv, h]
theorem mv_none {TB : List B} {RS : List R} {a : Int} {x : B} (h : pos TB x = none) : mv TB RS a x = if x.1 = 1 then some x else (below RS x.2).map fun d => (1, a + d) := by simp [mv, h]
/-- What the program finds of a scrap's first bytes. -/
def OneR (F : List Fd) (RS : List R) (a : Int) (s x : S) : Prop :=
  1 ≤ x.len ∧ x.len ≤ s.len ∧
  ((∃ f ∈ F, f.src = s.src ∧ f.fr ≤ s.at_ ∧ s.at_ + x.len ≤ f.to_ ∧ x.src = 0 ∧ x.at_ = f.at_ + s.at_ - f.fr) ∨
   ((∀ f ∈ F, f.src = s.src → ¬ (f.fr ≤ s.at_ ∧ s.at_ < f.to_) ∧ (s.at_ < f.fr → s.at_ + x.len ≤ f.fr)) ∧
    ((s.src = 1 ∧ x.src = 1 ∧ x.at_ = s.at_) ∨ (s.src ≠ 1 ∧ ∃ k r, RS[k]? = some r ∧ r.1 ≤ s.at_ ∧ s.at_ + x.len ≤ r.2 ∧ x.src = 1 ∧ x.at_ = a + tot (RS.take k) + s.at_ - r.1))))
def OneN (F : List Fd) (RS : List R) (s : S) : Prop := (∀ f ∈ F, f.src = s.src → ¬ (f.fr ≤ s.at_ ∧ s.at_ < f.to_)) ∧ s.src ≠ 1 ∧ ¬ In RS s.at_
theorem not_run {TB : List B} {F : List Fd} (hR : Runs TB F) {a y : Int} (h : ∀ f ∈ F, f.src = a → ¬ (f.fr ≤ y ∧ y < f.to_)) : pos TB (a, y) = none := by
  rw [pos_none]
  intro hm
  obtain ⟨f, hf, e, h'⟩ := hR.all a y hm
  exact h f hf e h'
theorem one_none {TB : List B} {F : List Fd} {RS : List R} {s : S} (hR : Runs TB F) (h : OneN F RS s) (a : Int) : mv TB RS a (s.src, s.at_) = none := by
  rw [mv_none (not_run hR h.1), if_neg h.2.1, below_none h.2.2]; rfl
theorem one_mv {TB : List B} {F : List Fd} {RS : List R} {s x : S} {a : Int} (hR : Runs TB F) (hS : Right RS) (h : OneR F RS a s x) :
    (Sc.sb ⟨s.src, s.at_, x.len⟩).map (mv TB RS a) = (Sc.sb x).map some := by
  obtain ⟨l0, l1, h⟩ := h
  simp only [Sc.sb, List.map_map]
  apply List.map_congr_left
  intro i hi
  rw [List.mem_range] at hi
  show mv TB RS a (s.src, s.at_ + (i : Int)) = some (x.src, x.at_ + (i : Int))
  rcases h with ⟨f, hf, e, h1, h2, h3, h4⟩ | ⟨hn, h⟩
  · obtain ⟨_, _, h5, h6⟩ := hR.ok f hf
    rw [e] at h6
    rw [mv_some (h6 (s.at_ + i) (by omega) (by omega)), h3, h4]
    congr 2; omega
  · have hp : pos TB (s.src, s.at_ + (i : Int)) = none := by
      refine not_run hR fun f hf e => ?_
      obtain ⟨h1, h2⟩ := hn f hf e
      rintro ⟨h3, h4⟩
      by_cases h5 : s.at_ < f.fr
      · have := h2 h5; omega
      · exact h1 ⟨by omega, by omega⟩
    rw [mv_none hp]
    rcases h with ⟨h1, h2, h3⟩ | ⟨h1, k, r, hr, h2, h3, h4, h5⟩
    · rw [if_pos h1, h1, h2, h3]
    · rw [if_neg h1, below_at hS hr (by show r.1 ≤ s.at_ + (i : Int); omega) (by show s.at_ + (i : Int) < r.2; omega), h4, h5]
      show some (1, _) = some (1, _)
      congr 2; omega
theorem tot_take_le {RS : List R} (h : Right RS) {k : Nat} {r : R} (hr : RS[k]? = some r) : 0 ≤ tot (RS.take k) ∧ tot (RS.take k) + (r.2 - r.1) ≤ tot RS := by
  have e : RS = RS.take k ++ (r :: RS.drop (k+1)) := by
    obtain ⟨hk, rfl⟩ := List.getElem?_eq_some_iff.1 hr
    rw [← List.drop_eq_getElem_cons hk, List.take_append_drop]
  have hRR : RightF (-1) (RS.take k ++ (r :: RS.drop (k+1))) := by rw [← e]; exact h
  rw [right_append] at hRR
  obtain ⟨h1, h2⟩ := hRR
  have h3 := (tot_le _ _ h1).1
  have h4 := (tot_le _ _ h2.2.2).1
  have h5 : ∀ l m : List R, tot (l ++ m) = tot l + tot m := by
    intro l m
    induction l with
    | nil => simp [tot]
    | cons q l ih => simp only [List.cons_append, tot, ih]; omega
  have h6 : tot RS = tot (RS.take k) + ((r.2 - r.1) + tot (RS.drop (k+1))) := by
    conv => lhs; rw [e]
    rw [h5]; rfl
  exact ⟨h3, by omega⟩
theorem one_ok {T : List S} {F : List Fd} {RS : List R} {s x : S} {a : Int} (hT : Sc.MayP T) (hR : Runs (Sc.bts T) F) (hS : Right RS) (hs : Sc.okS s) (a0 : 0 ≤ a) (a1 : a + tot RS ≤ 1099511627776) (h : OneR F RS a s x) : Sc.okS x := by
  obtain ⟨l0, l1, h⟩ := h
  unfold Sc.okS at *
  have hM := hT.2
  rcases h with ⟨f, hf, e, h1, h2, h3, h4⟩ | ⟨hn, ⟨h1, h2, h3⟩ | ⟨h1, k, r, hr, h2, h3, h4, h5⟩⟩
  · have := hR.bd hT f hf; omega
  · omega
  · have := tot_take_le hS hr; omega
/-- Bytes that are moved, one by one, are those of a list. -/
def MvTo (TB : List B) (RS : List R) (a : Int) (bs : List B) (O : List S) : Prop := bs.map (mv TB RS a) = (Sc.bts O).map some
def byteS (x : B) : S := ⟨x.1, x.2, 1⟩
theorem bts_byteS (bs : List B) : Sc.bts (bs.map byteS) = bs := by
  induction bs with
  | nil => rfl
  | cons x bs ih => rw [List.map_cons, Sc.bts_cons, ih]; simp [Sc.sb, byteS]
theorem MvTo.eq {TB : List B} {RS : List R} {a : Int} {bs : List B} {O : List S} (h : MvTo TB RS a bs O) : bs.filterMap (mv TB RS a) = Sc.bts O := by
  have h1 : bs.filterMap (mv TB RS a) = (bs.map (mv TB RS a)).filterMap id := by rw [List.filterMap_map]; rfl
  have h2 : ∀ l : List B, (l.map some).filterMap id = l := by
    intro l; induction l with
    | nil => rfl
    | cons x l ih => simp
  rw [h1, h, h2]
/-- What Move gives. -/
def moveL (TB : List B) (RS : List R) (a : Int) (bs : List B) : List S := Sc.joinL ((bs.filterMap (mv TB RS a)).map byteS)
theorem ok_bytes {O : List S} (h : Sc.Ok O) : Sc.Ok ((Sc.bts O).map byteS) := by
  intro t ht
  obtain ⟨⟨b, y⟩, hx, rfl⟩ := List.mem_map.1 ht
  obtain ⟨s, hs, e, h1, h2⟩ := (mem_bts _ _ _).1 hx
  have := h s hs
  unfold Sc.okS byteS at *
  simp only; omega
theorem MvTo.join {TB : List B} {RS : List R} {a : Int} {bs : List B} {O : List S} (h : MvTo TB RS a bs O) (hO : Sc.Ok O) : Sc.joinL O = moveL TB RS a bs := by
  unfold moveL
  rw [h.eq]
  exact Sc.joinL_congr hO (ok_bytes hO) (bts_byteS _).symm
theorem MvTo.nil (TB : List B) (RS : List R) (a : Int) : MvTo TB RS a [] [] := rfl
theorem MvTo.snoc {TB : List B} {RS : List R} {a : Int} {bs cs : List B} {O : List S} {x : S} (h : MvTo TB RS a bs O) (hx : cs.map (mv TB RS a) = (Sc.sb x).map some) : MvTo TB RS a (bs ++ cs) (O ++ [x]) := by
  unfold MvTo at *
  rw [List.map_append, h, hx, Sc.bts_append, Sc.bts_one, List.map_append]
theorem MvTo.all {TB : List B} {RS : List R} {a : Int} {bs : List B} {O : List S} (h : MvTo TB RS a bs O) : ∀ x ∈ bs, mv TB RS a x ≠ none := by
  intro x hx hn
  have h1 : (none : Option B) ∈ bs.map (mv TB RS a) := List.mem_map.2 ⟨x, hx, hn⟩
  rw [h] at h1
  obtain ⟨y, _, hy⟩ := List.mem_map.1 h1
  cases hy
theorem MvTo.len {TB : List B} {RS : List R} {a : Int} {bs : List B} {O : List S} (h : MvTo TB RS a bs O) (hO : Sc.Ok O) : Sc.tot O = bs.length := by
  have h1 := congrArg List.length h
  simp only [List.length_map] at h1
  rw [← Sc.bts_length hO, ← h1]
/-- What Rescue gives. -/
def places (src : Int) (l : List S) : List R := (l.filter fun s => decide (s.src = src)).map fun s => (s.at_, s.at_ + s.len)
theorem places_take {src : Int} {l : List S} {k : Nat} {s : S} (h : l[k]? = some s) : places src (l.take (k+1)) = places src (l.take k) ++ (if s.src = src then [(s.at_, s.at_ + s.len)] else []) := by
  rw [Sc.take_snoc l k s h]
  unfold places
  rw [List.filter_append, List.map_append]
  congr 1
  by_cases hc : s.src = src <;> simp [hc]
theorem in_places (src : Int) (l : List S) (y : Int) : In (places src l) y ↔ (src, y) ∈ Sc.bts l := by
  rw [mem_bts]
  constructor
  · rintro ⟨r, hr, h⟩
    obtain ⟨s, hs, rfl⟩ := List.mem_map.1 hr
    obtain ⟨h1, h2⟩ := List.mem_filter.1 hs
    exact ⟨s, h1, by simpa using h2, h⟩
  · rintro ⟨s, hs, h1, h2⟩
    exact ⟨_, List.mem_map.2 ⟨s, List.mem_filter.2 ⟨hs, by simpa using h1⟩, rfl⟩, h2⟩
theorem places_ir {src : Int} {l : List S} (h : Sc.Ok l) : IR (places src l) := by
  intro r hr
  obtain ⟨s, hs, rfl⟩ := List.mem_map.1 hr
  have := h s (List.mem_filter.1 hs).1
  unfold Sc.okS at this; unfold I64; simp only; omega
theorem places_len (src : Int) (l : List S) : (places src l).length ≤ l.length := by
  unfold places; rw [List.length_map]; exact List.length_filter_le _ _
def rescueR (T : List S) (ls : List (List S)) : List R := lessR (places 0 ls.flatten) (places 0 T)
theorem rescue_is {T : List S} {ls : List (List S)} (h : ∀ l ∈ ls, Sc.Ok l) : Is (rescueR T ls) (fun y => (0, y) ∈ Sc.bts ls.flatten ∧ (0, y) ∉ Sc.bts T) := by
  refine (lessR_is _ _).congr fun y => ?_
  rw [in_places, in_places]
  constructor
  · rintro ⟨_, h1, h2⟩; exact ⟨h1, h2⟩
  · rintro ⟨h1, h2⟩
    refine ⟨?_, h1, h2⟩
    obtain ⟨s, hs, _, h3, _⟩ := (mem_bts _ _ _).1 h1
    obtain ⟨l, hl, hs⟩ := List.mem_flatten.1 hs
    have := h l hl s hs
    unfold Sc.okS at this; omega
end Go.Proofs.Ytdpjblepcpjomaa.Rb
