/-
  EC: texts of one kind, one behind the other.
-/
import Derived.Test.YtblibmalommdkaaGreatEA
import Derived.Lib.SlBytesConst
import Derived.Test.YtblibmalommdkaaGreatEB
import Derived.Deep.RegionWith
import Derived.BigRegion
/-
  What PackHead makes.
-/
namespace Go.Proofs.YtblibmalommdkaaGreat.Re
open Go.RowKit
/-- What each operation of PackHead's drawn region leaves, as long as it is wanted. -/
def F6 (B bx : Nat) (wave body sum rv : Int) (i : Nat) (D : Nat → Prop) (v : Value) (w : World) : Prop :=
  match i with
  | 0 => ¬ D 1 → ∃ g, B ≤ g ∧ v = .slice (some ⟨g, 0, none⟩) 8 8 ∧ w.heap[g]? = some (.cells (bcells lettersL).toArray 5 (0, 0))
  | 1 => ¬ D 5 → ∃ g, v = .slice (some ⟨g, 0, none⟩) 8 8 ∧ RdB w w.heap.size (some ⟨g, 0, none⟩) lettersL
  | 2 => v = .pointer (some ⟨bx, 0, none⟩)
  | 3 => v = .int .i64 wave
  | 4 => ¬ D 5 → NumS w v [wave]
  | 5 => D 1 ∧ (¬ D 8 → RowS w B v 12 (lettersL ++ leB wave 4))
  | 6 => v = .int .i64 rv
  | 7 => ¬ D 8 → NumS w v [rv]
  | 8 => D 1 ∧ D 5 ∧ (¬ D 15 → RowS w B v 13 (lettersL ++ leB wave 4 ++ leB rv 1))
  | 9 => v = .pointer (some ⟨bx, 2, none⟩)
  | 10 => v = .int .i64 body
  | 11 => v = .pointer (some ⟨bx, 3, none⟩)
  | 12 => v = .int .u32 sum
  | 13 => v = .int .i64 sum
  | 14 => ¬ D 15 → NumS w v [body, sum]
  | 15 => D 1 ∧ D 5 ∧ D 8 ∧ RowS w B v 21 (lettersL ++ leB wave 4 ++ leB rv 1 ++ (leB body 4 ++ leB sum 4))
  | 16 => D 1 ∧ D 5 ∧ D 8 ∧ D 15 ∧ RowS w B v 21 (lettersL ++ leB wave 4 ++ leB rv 1 ++ (leB body 4 ++ leB sum 4))
  | _ => True
structure R6 (w0 : World) (wave body sum rv : Int) (rd : Bool) (D : Nat → Prop) (T : Nat → Value) (w : World) : Prop where
  box : w.heap[w0.heap.size]? = some (.cells #[.int .i64 wave, .bool rd, .int .i64 body, .int .u32 sum] 50 (0, 0))
  low : Below w0.heap.size w0 w
  f : ∀ i, i < 17 → D i → F6 w0.heap.size w0.heap.size wave body sum rv i D (T i) w
/-- Behind an operation that makes memory or reads. -/
theorem F6.grown {B bx : Nat} {wave body sum rv : Int} {D D' : Nat → Prop} {v : Value} {w w' : World} (i : Nat) (h : F6 B bx wave body sum rv i D v w) (hD : ∀ j, D j → D' j) (hg : w.grownBy w' none) (hr : ∀ A l, RdB w w.heap.size A l → RdB w' w'.heap.size A l) (hl : i = 0 → ¬ D' 1 → ∀ g : Nat, w.heap[g]? = some (Obj.cells (bcells lettersL).toArray 5 (0, 0)) → w'.heap[g]? = some (Obj.cells (bcells lettersL).toArray 5 (0, 0))) : F6 B bx wave body sum rv i D' v w' := by
  unfold F6 at *
  split at h
  all_goals first
    | exact h
    | exact fun hn => (h (fun x => hn (hD _ x))).grown hg (fun b e => by cases e)
    | exact ⟨hD _ h.1, fun hn => (h.2 (fun x => hn (hD _ x))).grown hg⟩
    | exact ⟨hD _ h.1, hD _ h.2.1, fun hn => (h.2.2 (fun x => hn (hD _ x))).grown hg⟩
    | exact ⟨hD _ h.1, hD _ h.2.1, hD _ h.2.2.1, h.2.2.2.grown hg⟩
    | exact ⟨hD _ h.1, hD _ h.2.1, hD _ h.2.2.1, hD _ h.2.2.2.1, h.2.2.2.2.grown hg⟩
    | skip
  · intro hn
    obtain ⟨g, hb, e, hh⟩ := h (fun x => hn (hD _ x))
    exact ⟨g, hb, e, hl rfl hn g hh⟩
  · intro hn
    obtain ⟨g, e, hh⟩ := h (fun x => hn (hD _ x))
    exact ⟨g, e, hr _ _ hh⟩
/-- Behind an operation that writes a row of bytes of which nobody else knows. -/
theorem F6.own {B bx : Nat} {wave body sum rv : Int} {D D' : Nat → Prop} {v : Value} {w w' : World} {g : Nat} (i : Nat) (h : F6 B bx wave body sum rv i D v w) (hD : ∀ j, D j → D' j) (hg : w.grownBy w' (some g)) (hc : ∃ cs m, w.heap[g]? = some (Obj.cells cs 5 m))
    (x0 : i = 0 → D' 1) (x1 : i = 1 → D' 5) (x5 : i = 5 → D' 8 ∨ ¬ D 1) (x8 : i = 8 → D' 15 ∨ ¬ D 1) (x15 : i = 15 → ¬ D 8 ∨ ¬ D 1) (x16 : i = 16 → ¬ D 8 ∨ ¬ D 15 ∨ ¬ D 1) : F6 B bx wave body sum rv i D' v w' := by
  unfold F6 at *
  split at h
  · exact fun hn => absurd (x0 rfl) hn
  · exact fun hn => absurd (x1 rfl) hn
  · exact h
  · exact h
  · exact fun hn => (h (fun x => hn (hD _ x))).grown hg (fun b e => by injection e with e; rw [← e]; exact hc)
  · exact ⟨hD _ h.1, fun hn => by exact (x5 rfl).elim (fun x => absurd x hn) (fun x => absurd h.1 x)⟩
  · exact h
  · exact fun hn => (h (fun x => hn (hD _ x))).grown hg (fun b e => by injection e with e; rw [← e]; exact hc)
  · exact ⟨hD _ h.1, hD _ h.2.1, fun hn => by exact (x8 rfl).elim (fun x => absurd x hn) (fun x => absurd h.1 x)⟩
  · exact h
  · exact h
  · exact h
  · exact h
  · exact h
  · exact fun hn => (h (fun x => hn (hD _ x))).grown hg (fun b e => by injection e with e; rw [← e]; exact hc)
  · rcases x15 rfl with x | x
    · exact absurd h.2.2.1 x
    · exact absurd h.1 x
  · rcases x16 rfl with x | x | x
    · exact absurd h.2.2.1 x
    · exact absurd h.2.2.2.1 x
    · exact absurd h.1 x
  · trivial
theorem rdB_alloc {w : World} {o : Obj} (A : Option Addr) (l : List Int) (h : RdB w w.heap.size A l) : RdB (w.alloc o) (w.alloc o).heap.size A l := h.up ((Below.refl _ _).alloc (Nat.le_refl _) o)
theorem heap_alloc_keep {w : World} {o x : Obj} {g : Nat} (h : w.heap[g]? = some x) : (w.alloc o).heap[g]? = some x := by
  have hlt := (Array.getElem?_eq_some_iff.1 h).1
  rw [heap_alloc_old w o hlt]
  exact h
variable {w0 w : World} {wave body sum rv : Int} {rd : Bool} {L : Array Bool} {T : Nat → Value}
/-- An operation that leaves the world. -/
theorem R6.same (h : R6 w0 wave body sum rv rd (Up L) T w) (i : Nat) (v : Value) (hi : i < L.size) (hn : ¬ Up L i) (hv : F6 w0.heap.size w0.heap.size wave body sum rv i (Up (L.setIfInBounds i true)) v w) : R6 w0 wave body sum rv rd (Up (L.setIfInBounds i true)) (put_ T i v) w := by
  refine ⟨h.box, h.low, fun j hj hu => ?_⟩
  by_cases he : j = i
  · subst he; simpa [put_] using hv
  · have hu' : Up L j := ((up_set hi).1 hu).resolve_left he
    simp only [put_, if_neg he]
    exact F6.grown j (h.f j hj hu') (fun k hk => (up_set hi).2 (.inr hk)) (World.grownBy.refl _ _) (fun _ _ x => x) (fun _ _ _ x => x)
/-- An operation that makes a block. -/
theorem R6.made (h : R6 w0 wave body sum rv rd (Up L) T w) (i : Nat) (v : Value) (o : Obj) (hi : i < L.size) (hn : ¬ Up L i) (hv : F6 w0.heap.size w0.heap.size wave body sum rv i (Up (L.setIfInBounds i true)) v (w.alloc o)) : R6 w0 wave body sum rv rd (Up (L.setIfInBounds i true)) (put_ T i v) (w.alloc o) := by
  refine ⟨heap_alloc_keep h.box, h.low.alloc h.low.size o, fun j hj hu => ?_⟩
  by_cases he : j = i
  · subst he; simpa [put_] using hv
  · have hu' : Up L j := ((up_set hi).1 hu).resolve_left he
    simp only [put_, if_neg he]
    exact F6.grown j (h.f j hj hu') (fun k hk => (up_set hi).2 (.inr hk)) (grown_alloc _ _) (fun _ _ x => rdB_alloc _ _ x) (fun _ _ _ x => heap_alloc_keep x)
theorem num_new (w : World) (ns : List Int) (g : Nat) (hg : g = w.heap.size) (cs : Array Value) (hc : cs = (ns.map (Value.int .i64)).toArray) (n : Nat) (hn : n = ns.length) : NumS (w.alloc (.cells cs 3)) (.slice (some ⟨g, 0, none⟩) n n) ns := by
  subst hg; subst hc; subst hn
  exact ⟨_, rfl, heap_alloc_new w _⟩
theorem R6.calls {w' : World} (h : R6 w0 wave body sum rv rd (Up L) T w) (i : Nat) (v : Value) (hi : i < L.size) (hn : ¬ Up L i) (h1 : Up L 1) (hb : Below w.heap.size w w') (hv : F6 w0.heap.size w0.heap.size wave body sum rv i (Up (L.setIfInBounds i true)) v w') : R6 w0 wave body sum rv rd (Up (L.setIfInBounds i true)) (put_ T i v) w' := by
  refine ⟨?_, h.low.trans (hb.mono h.low.size), fun j hj hu => ?_⟩
  · rw [hb.block _ (Array.getElem?_eq_some_iff.1 h.box).1]; exact h.box
  by_cases he : j = i
  · subst he; simpa [put_] using hv
  · have hu' : Up L j := ((up_set hi).1 hu).resolve_left he
    simp only [put_, if_neg he]
    exact F6.grown j (h.f j hj hu') (fun k hk => (up_set hi).2 (.inr hk)) ⟨hb.os, hb.tape, hb.output, hb.size, fun k hk _ => hb.block k hk⟩ (fun _ _ x => x.up hb) (fun _ hn _ _ => absurd ((up_set hi).2 (.inr h1)) hn)
theorem R6.wrote {w' : World} {g : Nat} (h : R6 w0 wave body sum rv rd (Up L) T w) (i : Nat) (v : Value) (hi : i < L.size) (hn : ¬ Up L i) (hg : w.grownBy w' (some g)) (hc : ∃ cs m, w.heap[g]? = some (Obj.cells cs 5 m)) (hbg : w0.heap.size ≤ g)
    (x0 : Up (L.setIfInBounds i true) 1) (x1 : i = 1 ∨ Up L 5) (x5 : Up (L.setIfInBounds i true) 8 ∨ ¬ Up L 1) (x8 : i = 8 ∨ Up (L.setIfInBounds i true) 15 ∨ ¬ Up L 1) (x15 : i = 15 ∨ ¬ Up L 8 ∨ ¬ Up L 1) (x16 : ¬ Up L 8 ∨ ¬ Up L 15 ∨ ¬ Up L 1)
    (hv : F6 w0.heap.size w0.heap.size wave body sum rv i (Up (L.setIfInBounds i true)) v w') : R6 w0 wave body sum rv rd (Up (L.setIfInBounds i true)) (put_ T i v) w' := by
  have hbx := h.box
  refine ⟨?_, h.low.grown hg h.low.size (fun k hk => by injection hk with hk; omega), fun j hj hu => ?_⟩
  · rw [hg.block _ (Array.getElem?_eq_some_iff.1 h.box).1 (fun e => by
      injection e with e
      obtain ⟨cs, m, hc⟩ := hc
      rw [← e, hbx] at hc
      injection hc with hc
      injection hc with _ h2 _
      cases h2)]
    exact h.box
  by_cases he : j = i
  · subst he; simpa [put_] using hv
  · have hu' : Up L j := ((up_set hi).1 hu).resolve_left he
    simp only [put_, if_neg he]
    refine F6.own j (h.f j hj hu') (fun k hk => (up_set hi).2 (.inr hk)) hg hc (fun _ => x0) (fun e => ?_) (fun _ => x5) (fun e => ?_) (fun e => ?_) (fun _ => x16)
    · rcases x1 with x | x
      · exact absurd (e.trans x.symm) he
      · exact (up_set hi).2 (.inr x)
    · rcases x8 with x | x
      · exact absurd (e.trans x.symm) he
      · exact x
    · rcases x15 with x | x
      · exact absurd (e.trans x.symm) he
      · exact x
/-- '[]byte("constant")', wherever the row of it lies. -/
theorem run_convert_lit {P : Program} (W : World) (t e : TypeId) (g : Nat) (C : Array Value) (n c : Nat) (ht : P.underlying t = some (.slice e)) (he : P.underlying e = some (.int .u8)) (hh : W.heap[g]? = some (.cells C e (0, 0))) :
    ∃ W', (convert t t (.slice (some ⟨g, 0, none⟩) n c)).run P W = .ok (.slice (some ⟨g, 0, none⟩) n c) W' ∧ W.grownBy W' (some g) ∧ W'.heap[g]? = some (.cells C e (C.size, C.size + 1)) := by
  have hsh : W.shape? g = some (e, C.size) := by unfold World.shape?; rw [hh]
  have hlt := (Array.getElem?_eq_some_iff.1 hh).1
  refine ⟨W.freeze ⟨g, C.size, none⟩ 1, ?_, ?_, ?_⟩
  · simp [convert, run_underlying ht, run_underlying he, markStringish, hsh]
  · unfold World.freeze
    rw [if_neg (by decide)]
    refine ⟨rfl, rfl, rfl, by simp, fun k hk hne => ?_⟩
    have : ¬ (g = k) := fun e => hne (by rw [e])
    simp [Array.getElem?_modify, this]
  · unfold World.freeze
    rw [if_neg (by decide)]
    simp [Array.getElem?_modify, hh]
set_option maxRecDepth 20000 in
set_option maxHeartbeats 2000000 in
theorem PackHead_yes (wave body sum : Int) (ready : Bool) (w : World) (h0 : 0 ≤ wave) (h1 : wave ≤ 2147483647) (h2 : 0 ≤ body) (h3 : body ≤ 2147483647) (h4 : 0 ≤ sum) (h5 : sum ≤ 4294967295) :
    Calls Tryz.prog 16 #[.agg #[.int .i64 wave, .bool ready, .int .i64 body, .int .u32 sum]] w fun e w' => (∃ g c, e = .returned (.tuple #[.slice (some ⟨g, 0, none⟩) 64 c, .int .i64 0]) ∧ OwnB w' w.heap.size (some ⟨g, 0, none⟩) 64 c (packL ⟨wave, ready, body, sum⟩)) ∧ Below w.heap.size w w' := by
  obtain ⟨i0, hi, hz0, hz1, hz2⟩ := info_parts info5
  go_enter Tryz.func16, Tryz.ntmps16
  go_upto_if 25 with (fail)
  go_cut [4] (fun t wx => t = .int .i64 (bit ready) ∧ wx = w.alloc (.cells #[.int .i64 wave, .bool ready, .int .i64 body, .int .u32 sum] 50))
  case first =>
    cases ready
    all_goals
      go_wp2_with fail
      go_meet
      exact ⟨rfl, rfl⟩
  case rest =>
  obtain ⟨rfl, rfl⟩ := hcut
  obtain ⟨hr0, hr1⟩ := bit_bd ready
  obtain ⟨rv, hrv⟩ : ∃ rv, bit ready = rv := ⟨_, rfl⟩
  rw [hrv] at hr0 hr1 ⊢
  have HV := Lib.hid hrv
  clear hrv
  go_wp2_with fail
  go_cut [5] (fun b wx => RowS wx w.heap.size b 21 (lettersL ++ leB wave 4 ++ leB rv 1 ++ (leB body 4 ++ leB sum 4)) ∧ Below w.heap.size w wx)
  case first =>
    refine wp_region_any (by kernel_rfl) ?_
    refine wpAny_inv (fun L a w' => ∃ T : Nat → Value, a = ⟨#[.agg #[.int .i64 wave, .bool ready, .int .i64 body, .int .u32 sum], .pointer (some ⟨w.heap.size, 0, none⟩), .slice none 0 0, .int .i64 0, .int .i64 rv, T 16, u6, u7, u8, u9, u10, u11, u12, u13, u14, u15, u16, u17, u18, u19, u20, u21, u22, u23, u24, u25, T 0, T 1, T 2, T 3, T 4, T 5, T 6, T 7, T 8, T 9, T 10, T 11, T 12, T 13, T 14, T 15, u42, u43, u44, u45, u46, u47, u48, u49, u50, u51, u52, u53], []⟩ ∧ R6 w wave body sum rv ready (Up L) T w') ?step ?done _ _ _ _ rfl (by decide) ⟨fun i => match i with | 0 => u26 | 1 => u27 | 2 => u28 | 3 => u29 | 4 => u30 | 5 => u31 | 6 => u32 | 7 => u33 | 8 => u34 | 9 => u35 | 10 => u36 | 11 => u37 | 12 => u38 | 13 => u39 | 14 => u40 | 15 => u41 | _ => undef, rfl, ?init⟩
    case init => exact ⟨heap_alloc_new w _, belowDrewN ((Below.refl _ _).alloc (Nat.le_refl _) _) 1, fun i hi hu => by
      exfalso
      unfold Up at hu
      have hlt : i < (Array.replicate 17 false).size := by simpa using hi
      simp [Array.getD_eq_getD_getElem?, hi] at hu⟩
    case done =>
      intro L a w' hs hinv hr
      obtain ⟨T, rfl, hR⟩ := hinv
      have hall := up_all hs hr rfl (by kernel_rfl)
      have h16 := (hR.f 16 (by decide) (hall 16 (by decide))).2.2.2.2
      have hlow := hR.low
      go_wp2_with fail
      go_meet
      exact ⟨h16, hlow⟩
    case step =>
      intro L a w' i hs hinv hr
      obtain ⟨T, rfl, hR⟩ := hinv
      have hlt := ready_lt hr
      have hn : ¬ Up L i := by unfold Up; rw [ready_not hs hr]; decide
      replace hlt : i < 17 := hlt
      replace hs : L.size = 17 := hs
      have hi' : i < L.size := by omega
      rcases (show i = 0 ∨ i = 1 ∨ i = 2 ∨ i = 3 ∨ i = 4 ∨ i = 5 ∨ i = 6 ∨ i = 7 ∨ i = 8 ∨ i = 9 ∨ i = 10 ∨ i = 11 ∨ i = 12 ∨ i = 13 ∨ i = 14 ∨ i = 15 ∨ i = 16 by omega) with rfl | rfl | rfl | rfl | rfl | rfl | rfl | rfl | rfl | rfl | rfl | rfl | rfl | rfl | rfl | rfl | rfl
      · refine wpOp_step rfl (fun K hK => ?_)
        have HK := Lib.hid hK
        have HR := Lib.hid hR
        clear hK hR hr
        go_simp
        exact HK.out _ _ ⟨put_ T 0 (.slice (some ⟨w'.heap.size, 0, none⟩) 8 8), by simp [put_], HR.out.made 0 _ (.cells #[.int .u8 111, .int .u8 99, .int .u8 116, .int .u8 97, .int .u8 118, .int .u8 111, .int .u8 45, .int .u8 106] 5) hi' hn (fun _ => ⟨_, HR.out.low.size, rfl, heap_alloc_new w' _⟩)⟩
      · have d0 := ready_dep hr 0 (by kernel_rfl)
        have hup : ∀ j, Up L j → Up (L.setIfInBounds 1 true) j := fun j hj => (up_set hi').2 (.inr hj)
        obtain ⟨g, hbg, e0, hh⟩ := hR.f 0 (by decide) d0 hn
        obtain ⟨w2, hrun, hg2, hh2⟩ := run_convert_lit (P := Tryz.prog) w' 22 5 g _ 8 8 Tryz.underlying22 Tryz.underlying5 hh
        refine wpOp_step rfl (fun K hK => ?_)
        have HK := Lib.hid hK
        have hF : F6 w.heap.size w.heap.size wave body sum rv 1 (Up (L.setIfInBounds 1 true)) (.slice (some ⟨g, 0, none⟩) 8 8) w2 := fun _ => ⟨g, rfl, fun k v hv => ⟨g, 0, rfl, (Array.getElem?_eq_some_iff.1 hh2).1, by rw [Nat.zero_add, cell_of_row _ _ _ _ _ _ hh2]; simpa [bcells] using hv⟩⟩
        have HR := Lib.hid (hR.wrote 1 _ hi' hn hg2 ⟨_, _, hh⟩ hbg ((up_set hi').2 (.inl rfl)) (.inl rfl) (.inr hn) (.inr (.inr hn)) (.inr (.inr hn)) (.inr (.inr hn)) hF)
        clear hK hR hr d0 hF hh2 hg2 hh hup
        go_simp
        exact HK.out _ _ ⟨put_ T 1 (.slice (some ⟨g, 0, none⟩) 8 8), by simp [put_, e0], HR.out⟩
      · refine wpOp_step rfl (fun K hK => ?_)
        have HK := Lib.hid hK
        have HR := Lib.hid hR
        clear hK hR hr
        go_simp
        exact HK.out _ _ ⟨put_ T 2 (.pointer (some ⟨w.heap.size, 0, none⟩)), by simp [put_], HR.out.same 2 _ hi' hn rfl⟩
      · have d2 := ready_dep hr 2 (by kernel_rfl)
        have e2 : T 2 = .pointer (some ⟨w.heap.size, 0, none⟩) := hR.f 2 (by decide) d2
        have hc : w'.cell? ⟨w.heap.size, 0, none⟩ = some (.int .i64 wave) := by rw [cell_of_row _ _ _ _ _ _ hR.box]; rfl
        refine wpOp_step rfl (fun K hK => ?_)
        have HK := Lib.hid hK
        have HR := Lib.hid hR
        clear hK hR hr d2
        go_simp
        exact HK.out _ _ ⟨put_ T 3 (.int .i64 wave), by simp [put_, e2], HR.out.same 3 _ hi' hn rfl⟩
      · have d3 := ready_dep hr 3 (by kernel_rfl)
        have e3 : T 3 = .int .i64 wave := hR.f 3 (by decide) d3
        refine wpOp_step rfl (fun K hK => ?_)
        have HK := Lib.hid hK
        have HR := Lib.hid hR
        clear hK hR hr d3
        go_simp
        exact HK.out _ _ ⟨put_ T 4 (.slice (some ⟨w'.heap.size, 0, none⟩) 1 1), by simp [put_, e3], HR.out.made 4 _ (.cells #[.int .i64 wave] 3) hi' hn (fun _ => num_new w' [wave] _ rfl _ rfl 1 rfl)⟩
      · have d1 := ready_dep hr 1 (by kernel_rfl)
        have d4 := ready_dep hr 4 (by kernel_rfl)
        obtain ⟨g, e1, hB⟩ := hR.f 1 (by decide) d1 hn
        obtain ⟨g4, e4, hI, _⟩ := NumS.rd (hR.f 4 (by decide) d4 hn)
        refine wpOp_step rfl (fun K hK => ?_)
        have HK := Lib.hid hK
        have HR := Lib.hid hR
        have HB := Lib.hid hB
        have HI := Lib.hid hI
        have HD1 := Lib.hid d1
        clear hK hR hr d1 d4 hB hI
        simp only [List.length_cons, List.length_nil, Nat.zero_add] at e4
        go_simp
        refine (put_full _ 8 4 _ 1 _ lettersL wave rfl (by simp) HB.out (by omega) HI.out (.inl ⟨rfl, by omega, by omega⟩)).mono ?_
        rintro e w5 ⟨⟨g5, c5, rfl, hO⟩, hb⟩
        have HO := Lib.hid hO
        have HB5 := Lib.hid hb
        have hlow : w.heap.size ≤ w'.heap.size := HR.out.low.size
        clear hO hb
        go_simp
        exact HK.out _ _ ⟨put_ T 5 (.slice (some ⟨g5, 0, none⟩) 12 c5), by simp [put_, e1, e4], HR.out.calls 5 _ hi' hn HD1.out HB5.out ⟨(up_set hi').2 (.inr HD1.out), fun _ => ⟨g5, c5, rfl, HO.out.mono hlow⟩⟩⟩
      · refine wpOp_step rfl (fun K hK => ?_)
        have HK := Lib.hid hK
        have HR := Lib.hid hR
        clear hK hR hr
        go_simp
        exact HK.out _ _ ⟨put_ T 6 (.int .i64 rv), by simp [put_], HR.out.same 6 _ hi' hn rfl⟩
      · have d6 := ready_dep hr 6 (by kernel_rfl)
        have e6 : T 6 = .int .i64 rv := hR.f 6 (by decide) d6
        refine wpOp_step rfl (fun K hK => ?_)
        have HK := Lib.hid hK
        have HR := Lib.hid hR
        clear hK hR hr d6
        go_simp
        exact HK.out _ _ ⟨put_ T 7 (.slice (some ⟨w'.heap.size, 0, none⟩) 1 1), by simp [put_, e6], HR.out.made 7 _ (.cells #[.int .i64 rv] 3) hi' hn (fun _ => num_new w' [rv] _ rfl _ rfl 1 rfl)⟩
      · have d5 := ready_dep hr 5 (by kernel_rfl)
        have d7 := ready_dep hr 7 (by kernel_rfl)
        have hrow := hR.f 5 (by decide) d5
        have hd1 : Up L 1 := hrow.1
        have hd5 : Up L 5 := d5
        have hd8 := hn
        obtain ⟨g, c, er, hO⟩ := hrow.2 hn
        obtain ⟨g4, e4, hI, hh4⟩ := NumS.rd (hR.f 7 (by decide) d7 hn)
        have hne : g ≠ g4 := by
          intro e
          obtain ⟨cs, m, hc⟩ := hO.blk
          rw [e, hh4] at hc
          injection hc with hc
          injection hc with _ h2 _
          cases h2
        have hbl := hO.blk
        have hbb := hO.base_le
        refine wpOp_step rfl (fun K hK => ?_)
        have HK := Lib.hid hK
        have HR := Lib.hid hR
        have HO := Lib.hid hO
        have HI := Lib.hid hI
        have HBL := Lib.hid hbl
        have HD := Lib.hid (And.intro hd1 (And.intro hd5 d5))
        have hlow : w.heap.size ≤ w'.heap.size := hR.low.size
        have HD8 := Lib.hid hd8
        clear hK hR hr d5 d7 hO hI hbl hh4 hrow hd1 hd5 hd8
        simp only [List.length_cons, List.length_nil, Nat.zero_add] at e4
        go_simp
        refine (put_own w.heap.size g 12 c 1 _ 1 _ _ (lettersL ++ leB wave 4) [rv] HO.out hlow (by omega) (by omega) (by omega) (by omega) (by omega) rfl HI.out (fun b hb => ?_) (fun x hx => ?_)).mono ?_
        · simp at hb; omega
        · simp at hx; subst hx; exact .inr ⟨rfl, by omega, by omega⟩
        rintro e w5 ⟨⟨g5, c5, rfl, hO5, _⟩, hg5⟩
        have HO5 := Lib.hid hO5
        have HG5 := Lib.hid hg5
        clear hO5 hg5
        go_simp
        exact HK.out _ _ ⟨put_ T 8 (.slice (some ⟨g5, 0, none⟩) 13 c5), by simp [put_, er, e4], HR.out.wrote 8 _ hi' hn HG5.out HBL.out hbb.1 ((up_set hi').2 (.inr HD.out.1)) (.inr HD.out.2.1) (.inl ((up_set hi').2 (.inl rfl))) (.inl rfl) (.inr (.inl HD8.out)) (.inl HD8.out) ⟨(up_set hi').2 (.inr HD.out.1), (up_set hi').2 (.inr HD.out.2.1), fun _ => ⟨g5, c5, rfl, by simpa using HO5.out⟩⟩⟩
      · refine wpOp_step rfl (fun K hK => ?_)
        have HK := Lib.hid hK
        have HR := Lib.hid hR
        clear hK hR hr
        go_simp
        exact HK.out _ _ ⟨put_ T 9 (.pointer (some ⟨w.heap.size, 2, none⟩)), by simp [put_], HR.out.same 9 _ hi' hn rfl⟩
      · have d9 := ready_dep hr 9 (by kernel_rfl)
        have e9 : T 9 = .pointer (some ⟨w.heap.size, 2, none⟩) := hR.f 9 (by decide) d9
        have hc : w'.cell? ⟨w.heap.size, 2, none⟩ = some (.int .i64 body) := by rw [cell_of_row _ _ _ _ _ _ hR.box]; rfl
        refine wpOp_step rfl (fun K hK => ?_)
        have HK := Lib.hid hK
        have HR := Lib.hid hR
        clear hK hR hr d9
        go_simp
        exact HK.out _ _ ⟨put_ T 10 (.int .i64 body), by simp [put_, e9], HR.out.same 10 _ hi' hn rfl⟩
      · refine wpOp_step rfl (fun K hK => ?_)
        have HK := Lib.hid hK
        have HR := Lib.hid hR
        clear hK hR hr
        go_simp
        exact HK.out _ _ ⟨put_ T 11 (.pointer (some ⟨w.heap.size, 3, none⟩)), by simp [put_], HR.out.same 11 _ hi' hn rfl⟩
      · have d11 := ready_dep hr 11 (by kernel_rfl)
        have e11 : T 11 = .pointer (some ⟨w.heap.size, 3, none⟩) := hR.f 11 (by decide) d11
        have hc : w'.cell? ⟨w.heap.size, 3, none⟩ = some (.int .u32 sum) := by rw [cell_of_row _ _ _ _ _ _ hR.box]; rfl
        refine wpOp_step rfl (fun K hK => ?_)
        have HK := Lib.hid hK
        have HR := Lib.hid hR
        clear hK hR hr d11
        go_simp
        exact HK.out _ _ ⟨put_ T 12 (.int .u32 sum), by simp [put_, e11], HR.out.same 12 _ hi' hn rfl⟩
      · have d12 := ready_dep hr 12 (by kernel_rfl)
        have e12 : T 12 = .int .u32 sum := hR.f 12 (by decide) d12
        have hws : IntKind.i64.wrap sum = sum := by rw [IntKind.wrap_i64]; omega
        refine wpOp_step rfl (fun K hK => ?_)
        have HK := Lib.hid hK
        have HR := Lib.hid hR
        clear hK hR hr d12
        go_simp
        exact HK.out _ _ ⟨put_ T 13 (.int .i64 sum), by simp [put_, e12], HR.out.same 13 _ hi' hn rfl⟩
      · have d10 := ready_dep hr 10 (by kernel_rfl)
        have e10 : T 10 = .int .i64 body := hR.f 10 (by decide) d10
        have d13 := ready_dep hr 13 (by kernel_rfl)
        have e13 : T 13 = .int .i64 sum := hR.f 13 (by decide) d13
        refine wpOp_step rfl (fun K hK => ?_)
        have HK := Lib.hid hK
        have HR := Lib.hid hR
        clear hK hR hr d10 d13
        go_simp
        exact HK.out _ _ ⟨put_ T 14 (.slice (some ⟨w'.heap.size, 0, none⟩) 2 2), by simp [put_, e10, e13], HR.out.made 14 _ (.cells #[.int .i64 body, .int .i64 sum] 3) hi' hn (fun _ => num_new w' [body, sum] _ rfl _ rfl 2 rfl)⟩
      · have d8 := ready_dep hr 8 (by kernel_rfl)
        have d14 := ready_dep hr 14 (by kernel_rfl)
        have hrow := hR.f 8 (by decide) d8
        have hd1 : Up L 1 := hrow.1
        have hd5 : Up L 5 := hrow.2.1
        have hd8 := hn
        obtain ⟨g, c, er, hO⟩ := hrow.2.2 hn
        obtain ⟨g4, e4, hI, hh4⟩ := NumS.rd (hR.f 14 (by decide) d14 hn)
        have hne : g ≠ g4 := by
          intro e
          obtain ⟨cs, m, hc⟩ := hO.blk
          rw [e, hh4] at hc
          injection hc with hc
          injection hc with _ h2 _
          cases h2
        have hbl := hO.blk
        have hbb := hO.base_le
        refine wpOp_step rfl (fun K hK => ?_)
        have HK := Lib.hid hK
        have HR := Lib.hid hR
        have HO := Lib.hid hO
        have HI := Lib.hid hI
        have HBL := Lib.hid hbl
        have HD := Lib.hid (And.intro hd1 (And.intro hd5 d8))
        have hlow : w.heap.size ≤ w'.heap.size := hR.low.size
        have HD8 := Lib.hid hd8
        clear hK hR hr d8 d14 hO hI hbl hh4 hrow hd1 hd5 hd8
        simp only [List.length_cons, List.length_nil, Nat.zero_add] at e4
        go_simp
        refine (put_own w.heap.size g 13 c 4 _ 2 _ _ (lettersL ++ leB wave 4 ++ leB rv 1) [body, sum] HO.out hlow (by omega) (by omega) (by omega) (by omega) (by omega) rfl HI.out (fun b hb => ?_) (fun x hx => ?_)).mono ?_
        · simp at hb; omega
        · simp at hx; exact .inl ⟨rfl, by omega, by omega⟩
        rintro e w5 ⟨⟨g5, c5, rfl, hO5, _⟩, hg5⟩
        have HO5 := Lib.hid hO5
        have HG5 := Lib.hid hg5
        clear hO5 hg5
        go_simp
        exact HK.out _ _ ⟨put_ T 15 (.slice (some ⟨g5, 0, none⟩) 21 c5), by simp [put_, er, e4], HR.out.wrote 15 _ hi' hn HG5.out HBL.out hbb.1 ((up_set hi').2 (.inr HD.out.1)) (.inr HD.out.2.1) (.inl ((up_set hi').2 (.inr HD.out.2.2))) (.inr (.inl ((up_set hi').2 (.inl rfl)))) (.inl rfl) (.inr (.inl HD8.out)) ⟨(up_set hi').2 (.inr HD.out.1), (up_set hi').2 (.inr HD.out.2.1), (up_set hi').2 (.inr HD.out.2.2), ⟨g5, c5, rfl, by simpa using HO5.out⟩⟩⟩
      · have d15 := ready_dep hr 15 (by kernel_rfl)
        have hrow := hR.f 15 (by decide) d15
        have hF : F6 w.heap.size w.heap.size wave body sum rv 16 (Up (L.setIfInBounds 16 true)) (T 15) w' := ⟨(up_set hi').2 (.inr hrow.1), (up_set hi').2 (.inr hrow.2.1), (up_set hi').2 (.inr hrow.2.2.1), (up_set hi').2 (.inr d15), hrow.2.2.2⟩
        refine wpOp_step rfl (fun K hK => ?_)
        have HK := Lib.hid hK
        have HR := Lib.hid hR
        have HF := Lib.hid hF
        clear hK hR hr d15 hF hrow
        go_simp
        exact HK.out _ _ ⟨put_ T 16 (T 15), by simp [put_], HR.out.same 16 _ hi' hn HF.out⟩
  case rest =>
  obtain ⟨⟨g, c, rfl, hO⟩, hb⟩ := hcut
  have HO := Lib.hid hO
  have HB := Lib.hid hb
  have hsz := hb.size
  have hbg := hO.base_le.1
  clear hO hb
  go_wp2_with (at_builtin; refine wpList_append_zeros rfl _ _ 22 3 rfl w.heap.size 5 i0 (.int .u8 0) .i64 Tryz.underlying22 Tryz.underlying3 hi hz0 hz1 hz2 rfl rfl g 21 c _ rfl HO.out.2 39 rfl (by omega) (by omega) (by omega) (by omega) ?_)
  intro v' w5 hown hg hblk
  obtain ⟨A5, c5, hv⟩ := ext_of_ownB hown
  rw [hv] at hown hblk
  have hO5 : OwnB w5 w.heap.size A5 60 c5 (preL ⟨wave, ready, body, sum⟩) := ⟨pre_length _, by rw [preL, headL, HV.out]; simpa [bcells] using hown⟩
  obtain ⟨g5, rfl, hb5, hlt5, _, _⟩ := hO5.form (by omega)
  have HO5 := Lib.hid hO5
  have HB5 : Hid (Below w.heap.size w w5) := Lib.hid (HB.out.grown hg hsz (fun k h => by injection h with h; omega))
  rw [hv]
  clear hown hg hblk hv hO5
  have hb5' := HB5.out.size
  have hcr := crcOf_lt (pre_bytes ⟨wave, ready, body, sum⟩)
  have hcell : ∀ o : Obj, o = .cells #[.slice (some ⟨g5, 0, none⟩) 60 c5] 22 → (w5.alloc o).cell? ⟨w5.heap.size, 0, none⟩ = some (.slice (some ⟨g5, 0, none⟩) 60 c5) := fun o ho => by subst ho; rw [cell_new]; rfl
  have HC := Lib.hid hcell
  have HP : Hid (packL ⟨wave, ready, body, sum⟩ = preL ⟨wave, ready, body, sum⟩ ++ leB (crcOf (preL ⟨wave, ready, body, sum⟩)) 4) := Lib.hid rfl
  have HY := Lib.hid (pre_bytes ⟨wave, ready, body, sum⟩)
  have HLn := Lib.hid (pre_length ⟨wave, ready, body, sum⟩)
  generalize hpl : packL ⟨wave, ready, body, sum⟩ = pl at *
  have HQ := Lib.hid hpl
  clear hpl
  generalize preL ⟨wave, ready, body, sum⟩ = l at *
  clear hcell
  go_wp2_with fail
  refine (crc_any w5.heap.size 1 (some ⟨g5, 0, none⟩) 60 c5 _ l HLn.out ((HO5.out.alloc _).rd) HY.out (by omega) (HC.out _ rfl)).mono ?_
  rintro e w6 ⟨rfl, rfl⟩
  generalize crcOf l = cr at *
  have hwr : IntKind.i64.wrap (cr : Int) = cr := by rw [IntKind.wrap_i64]; omega
  go_wp2_with fail
  refine (put_own w.heap.size g5 60 c5 4 _ 1 1 _ l [(cr : Int)] ((HO5.out.alloc _).alloc _) (by simp; omega) (by omega) (by omega) (by omega) (by omega) (by omega) rfl (rdI_lit1 _ _ _ (by simp)) (fun b hb => ?_) (fun x hx => ?_)).mono ?_
  · simp at hb; omega
  · simp at hx; subst hx; exact .inl ⟨rfl, by omega, by omega⟩
  rintro e w7 ⟨⟨g7, c7, rfl, hO7, _⟩, hg7⟩
  have HO7 : Hid (OwnB w7 w.heap.size (some ⟨g7, 0, none⟩) 64 c7 pl) := Lib.hid (by rw [HP.out]; simpa using hO7)
  have HB7 : Hid (Below w.heap.size w w7) := Lib.hid (((HB5.out.alloc HB5.out.size _).alloc (by simp; omega) _).grown hg7 (by simp; omega) (fun k h => by injection h with h; omega))
  clear hO7 hg7
  go_wp2_with fail
  go_ret2
  exact ⟨⟨g7, c7, rfl, by rw [HQ.out]; exact HO7.out⟩, HB7.out⟩
set_option maxRecDepth 100000 in
theorem PackHead_no (wave body sum : Int) (ready : Bool) (w : World) (h : wave < 0 ∨ 2147483647 < wave ∨ body < 0 ∨ 2147483647 < body) :
    Calls Tryz.prog 16 #[.agg #[.int .i64 wave, .bool ready, .int .i64 body, .int .u32 sum]] w fun e w' => e = .returned (.tuple #[.slice none 0 0, .int .i64 1]) ∧ Below w.heap.size w w' := by
  by_cases a : wave < 0
  · go_enter Tryz.func16, Tryz.ntmps16
    go_wp2_with fail
    go_ret2
    exact ⟨rfl, (Below.refl _ _).alloc (Nat.le_refl _) _⟩
  · by_cases b : 2147483647 < wave
    · clear h
      go_enter Tryz.func16, Tryz.ntmps16
      go_wp2_with fail
      go_ret2
      exact ⟨rfl, (Below.refl _ _).alloc (Nat.le_refl _) _⟩
    · by_cases c : body < 0
      · clear h
        go_enter Tryz.func16, Tryz.ntmps16
        go_wp2_with fail
        go_ret2
        exact ⟨rfl, (Below.refl _ _).alloc (Nat.le_refl _) _⟩
      · have d : 2147483647 < body := by omega
        clear h
        go_enter Tryz.func16, Tryz.ntmps16
        go_wp2_with fail
        go_ret2
        exact ⟨rfl, (Below.refl _ _).alloc (Nat.le_refl _) _⟩
end Go.Proofs.YtblibmalommdkaaGreat.Re

/-
  What the reference's OpenHead answers.
-/
namespace Go.Proofs.YtblibmalommdkaaGreat.Re
open Go.RowKit
end Go.Proofs.YtblibmalommdkaaGreat.Re

/-
  What Slot answers; the document's example.
-/
namespace Go.Proofs.YtblibmalommdkaaGreat.Re
open Go.RowKit
def slotOf (body k : Int) : Int := 64 * (1 + (body + 63) / 64 + k)
set_option maxRecDepth 100000 in
theorem Slot_yes (body k : Int) (w : World) (h0 : 0 ≤ body) (h1 : body ≤ 2147483647) (h2 : 0 ≤ k) (h3 : k ≤ 64) :
    Calls Tryz.prog 18 #[.int .i64 body, .int .i64 k] w fun e w' => e = .returned (.tuple #[.int .i64 (slotOf body k), .int .i64 0]) ∧ w = w' := by
  have E : Hid (64 * (1 + (body + 64 - 1) / 64 + k) = slotOf body k) := Lib.hid (by unfold slotOf; omega)
  go_enter Tryz.func18, Tryz.ntmps18
  go_wp2_with fail
  rw [← E.out]
  go_ret2
  exact ⟨rfl, rfl⟩
set_option maxRecDepth 100000 in
theorem Slot_no (body k : Int) (w : World) (h : body < 0 ∨ 2147483647 < body ∨ k < 0 ∨ 64 < k) :
    Calls Tryz.prog 18 #[.int .i64 body, .int .i64 k] w fun e w' => e = .returned (.tuple #[.int .i64 0, .int .i64 1]) ∧ w = w' := by
  by_cases a : body < 0
  · clear h
    go_enter Tryz.func18, Tryz.ntmps18
    go_wp2_with fail
    go_ret2
    exact ⟨rfl, rfl⟩
  · by_cases b : 2147483647 < body
    · clear h
      go_enter Tryz.func18, Tryz.ntmps18
      go_wp2_with fail
      go_ret2
      exact ⟨rfl, rfl⟩
    · by_cases c : k < 0
      · clear h
        go_enter Tryz.func18, Tryz.ntmps18
        go_wp2_with fail
        go_ret2
        exact ⟨rfl, rfl⟩
      · have d : 64 < k := by omega
        clear h
        go_enter Tryz.func18, Tryz.ntmps18
        go_wp2_with fail
        go_ret2
        exact ⟨rfl, rfl⟩
def hdX : Hd := ⟨1, true, 80, 5⟩
set_option maxRecDepth 20000 in
set_option maxHeartbeats 2000000 in
theorem awake_any (w : World) : Calls Tryz.prog 5 #[] w fun e w' => e = .returned (.bool true) ∧ Below w.heap.size w w' := by
  have HX := Lib.hid (open_pack hdX ⟨by decide, by decide, by decide, by decide⟩ ⟨by decide, by decide⟩)
  go_enter Tryz.func5, Tryz.ntmps5
  go_wp2_with fail
  refine (PackHead_yes 1 80 5 true _ (by omega) (by omega) (by omega) (by omega) (by omega) (by omega)).mono ?_
  rintro e w1 ⟨⟨g, c, rfl, hO⟩, hb⟩
  have HO := Lib.hid hO
  have HB := Lib.hid hb
  have hc := hO.cap
  unfold maxLen at hc
  clear hO hb
  go_wp2_with fail
  refine (OpenHead_any g 0 c _ (packL hdX) (pack_length _) HO.out.rd (pack_bytes _) hc.1 (by omega)).mono ?_
  rintro e w2 ⟨he, hb⟩
  obtain rfl : e = .returned (.tuple #[.agg #[.int .i64 1, .bool true, .int .i64 80, .int .u32 5], .int .i64 0]) := by rw [he, HX.out]; rfl
  clear he
  have HB2 := Lib.hid (below_up HB.out hb)
  have HR := Lib.hid (HO.out.rd.up hb)
  have ho := HO.out.below hb (Nat.le_refl _)
  have HO2 := Lib.hid ho
  have hg := ho.base_le
  clear hb HB
  have hsl : slotOf 80 0 = 192 := by decide
  have HSL := Lib.hid hsl
  clear hsl
  go_wp2_with fail
  refine (Slot_yes 80 0 _ (by omega) (by omega) (by omega) (by omega)).mono ?_
  rintro e w3 ⟨he, rfl⟩
  rw [HSL.out] at he
  subst he
  have hb3 : Below w2.heap.size w2 (w2.alloc (.cells #[.int .i64 1, .bool true, .int .i64 80, .int .u32 5] 50)) := (Below.refl _ _).alloc (Nat.le_refl _) _
  have hh0 : (w2.alloc (.cells #[.int .i64 1, .bool true, .int .i64 80, .int .u32 5] 50)).cell? ⟨w2.heap.size, 0, none⟩ = some (.int .i64 1) := by rw [cell_new]; rfl
  generalize w2.alloc (.cells #[.int .i64 1, .bool true, .int .i64 80, .int .u32 5] 50) = w3 at *
  have hr3 := HR.out.up hb3
  have ho3 := HO2.out.below hb3 (Nat.le_refl _)
  have HB3 := Lib.hid (below_up HB2.out hb3)
  have hr8 : RdB w3 w3.heap.size (some ⟨g, 0, none⟩) ((packL ⟨1, true, 80, 5⟩).take 8) := by simpa using hr3.piece 0 8
  obtain ⟨S, hS1, hS2⟩ := str_of w3 ⟨g, 0, none⟩ 8 c _ rfl (bytes_take (pack_bytes _) 8) (RdB.cells hr8)
  have hst : S.toList = [111, 99, 116, 97, 118, 111, 45, 106] := hS2.2 rfl
  have q8 := ho3.cell 8 (by omega) 1 rfl
  have q12 := ho3.cell 12 (by omega) 1 rfl
  have q13 := ho3.cell 13 (by omega) 80 rfl
  have q17 := ho3.cell 17 (by omega) 5 rfl
  clear hS2 hr8 hr3 ho3 hb3
  go_wp2_with (rw [hS1])
  go_ret
  exact ⟨rfl, HB3.out⟩
end Go.Proofs.YtblibmalommdkaaGreat.Re
