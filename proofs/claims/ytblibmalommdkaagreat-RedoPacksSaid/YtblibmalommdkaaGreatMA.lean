/-
  MA: texts of one kind, one behind the other.
-/
import Derived.Test.YtblibmalommdkaaGreatRA
import Derived.Maps.OwnSet
import Derived.Maps.Views
import Derived.WalkKit
import Derived.Handy
import Derived.MapFrom
import Derived.Test.YtblibmalommdkaaGreatSB
import Derived.Test.YtblibmalommdkaaGreatRC
/-
  A map from numbers to bools in memory, as a set of numbers: look-up, store of true, delete, clear. No program in sight but its type numbers' laws, which are premises.
-/
namespace Go.Proofs.YtblibmalommdkaaGreat
open Go.RowKit Go.Maps Go.ChangeMaps Go.MapKept
theorem plainElem_bool_inv {H : Type} {P : Program} {e : TypeId} (he : P.underlying e = some .bool) {v : Value} {z : DataW H × List MemPlace} (h : plainElem P e v = some z) : ∃ x, v = .bool x ∧ z = (.lit (.bool x), []) := by
  unfold plainElem at h
  rw [he] at h
  cases v <;> simp at h
  exact ⟨_, rfl, h.symm⟩
theorem I64.wf {k : Int} (h : I64 k) : (Lit.int .i64 k).wf = true := WalkArith.wf_i64 h
def upd (u : Int → Bool) (k : Int) (x : Bool) : Int → Bool := fun j => if j = k then x else u j
theorem upd_same (u : Int → Bool) (k : Int) (x : Bool) : upd u k x k = x := by simp [upd]
theorem upd_other (u : Int → Bool) {k j : Int} (x : Bool) (h : j ≠ k) : upd u k x j = u j := by simp [upd, h]
/-- What the program's table says of the map's types. -/
structure MapTy (P : Program) (t k e : TypeId) : Prop where
  tm : P.underlying t = some (.map k e)
  tk : P.underlying k = some (.int .i64)
  te : P.underlying e = some .bool
  tz : ∀ w, (zeroValue e).run P w = .ok (.bool false) w
/-- Block b is a map of at most n entries that holds true just at the numbers of u. -/
def SetM (w : World) (P : Program) (k e : TypeId) (b n : Nat) (u : Int → Bool) : Prop :=
  ∃ D : DataW Unit, w.ownsMap P k (plainElem P e) b n D ∧ ∀ j, I64 j → D.atKey (.int .i64 j) (.lit (.bool false)) = .lit (.bool (u j))
section
variable {P : Program} {t k e : TypeId} {w : World} {b n : Nat} {u : Int → Bool}
theorem SetM.lookup (h : SetM w P k e b n u) (T : MapTy P t k e) {j : Int} (hj : I64 j) : (Instr.lookup t (.map (some b)) (.int .i64 j) false).run P w = .ok (.bool (u j)) w := by
  obtain ⟨D, hown, hu⟩ := h
  obtain ⟨v, ps, hrun, hv⟩ := hown.lookup (int_keyed T.tk) T.tm (T.tz w) (plainElem_bool T.te false) (keyOf_int_mk T.tk hj.wf)
  obtain ⟨x, rfl, hx⟩ := plainElem_bool_inv T.te hv
  simp only [Prod.mk.injEq] at hx
  have := (hu j hj).symm.trans hx.1
  injection this with h1
  injection h1 with h2
  rw [hrun, h2]
theorem SetM.store (h : SetM w P k e b n u) (T : MapTy P t k e) (hn : n < maxLen) {j : Int} (hj : I64 j) (x : Bool) :
    ∃ w', (Instr.mapUpdate t (.map (some b)) (.int .i64 j) (.bool x)).run P w = .ok () w' ∧ SetM w' P k e b (n+1) (upd u j x) ∧ w.grownBy w' (some b) := by
  obtain ⟨D, hown, hu⟩ := h
  obtain ⟨w', hrun, hown', hg⟩ := hown.update (int_keyed T.tk) T.tm hn (keyOf_int_mk T.tk hj.wf) (plainElem_bool T.te x)
  refine ⟨w', hrun, ⟨_, hown', fun i hi => ?_⟩, hg⟩
  by_cases hij : i = j
  · subst hij
    rw [upd_same, atKey_put_same hown.isMap (by simp [WideAt.IsKeyLit])]
  · rw [upd_other _ _ hij, atKey_put_other (by intro hh; injection hh with _ h2; exact hij h2)]
    exact hu i hi
theorem SetM.drop (h : SetM w P k e b n u) (T : MapTy P t k e) {j : Int} (hj : I64 j) (ty : TypeId) :
    ∃ w', (Builtin.delete_ #[t, k] ty #[.map (some b), .int .i64 j]).run P w = .ok (.tuple #[]) w' ∧ SetM w' P k e b n (upd u j false) ∧ w.grownBy w' (some b) := by
  obtain ⟨D, hown, hu⟩ := h
  obtain ⟨w', hrun, hown', hg⟩ := hown.drop (int_keyed T.tk) T.tm (keyOf_int_mk T.tk hj.wf) ty
  refine ⟨w', hrun, ⟨_, hown', fun i hi => ?_⟩, hg.grown⟩
  by_cases hij : i = j
  · subst hij
    rw [upd_same, atKey_del_same]
  · rw [upd_other _ _ hij, atKey_del_other (by intro hh; injection hh with _ h2; exact hij h2)]
    exact hu i hi
theorem SetM.made (w : World) (P : Program) (k e : TypeId) : SetM (w.alloc (.map #[] 0)) P k e w.heap.size 0 (fun _ => false) :=
  ⟨.map [], World.ownsMap_made _ _ _ _, fun j _ => by simp [DataW.atKey]⟩
theorem SetM.kept {w' : World} {row : Option Nat} (h : SetM w P k e b n u) (hg : w.grownBy w' row) (hne : some b ≠ row) : SetM w' P k e b n u := by
  obtain ⟨D, hown, hu⟩ := h
  exact ⟨D, hown.kept hg hne, hu⟩
theorem SetM.lt (h : SetM w P k e b n u) : b < w.heap.size := by obtain ⟨D, hown, _⟩ := h; exact hown.lt
theorem SetM.mono (h : SetM w P k e b n u) {n' : Nat} (hn : n ≤ n') : SetM w P k e b n' u := by obtain ⟨D, hown, hu⟩ := h; exact ⟨D, hown.mono hn, hu⟩
theorem SetM.setCell (h : SetM w P k e b n u) {a : Addr} (ha : b ≠ a.block) (v : Value) : SetM (w.setCell a v) P k e b n u := by obtain ⟨D, hown, hu⟩ := h; exact ⟨D, hown.setCell ha v, hu⟩
theorem SetM.empty (h : SetM w P k e b n u) (T : MapTy P t k e) (ty : TypeId) :
    ∃ w', (Builtin.clear_ #[t] ty #[.map (some b)]).run P w = .ok (.tuple #[]) w' ∧ SetM w' P k e b n (fun _ => false) ∧ w.grownBy w' (some b) := by
  obtain ⟨D, ⟨es, clock, hb, F, hs, rfl⟩, hu⟩ := h
  have hrun : ∃ c', (Builtin.clear_ #[t] ty #[.map (some b)]).run P w = .ok (.tuple #[]) (setBlock w b (.map #[] c')) := by
    refine ⟨clock, ?_⟩
    simp [Builtin.clear_, run_underlying T.tm, Go.MapKept.run_getObj_map hb, Go.MapKept.run_setObj_map _ hb, Result.andThen]
    rfl
  obtain ⟨c', hrun⟩ := hrun
  refine ⟨_, hrun, ⟨.map [], ⟨#[], c', heap_setBlock_same hb _, ⟨by simp, stamped_empty c', by simp⟩, by simp, rfl⟩, fun j _ => by simp [DataW.atKey]⟩, ⟨rfl, rfl, rfl, by simp [setBlock], fun i _ hi => heap_setBlock_other hb _ (fun e => hi (by rw [e]))⟩⟩
end
end Go.Proofs.YtblibmalommdkaaGreat

/-
  A plan in memory: its steps, waves, the plan; what they say, plainly.
-/
namespace Go.Proofs.YtblibmalommdkaaGreat
open Go.RowKit
abbrev S := Sc.S
/-- A step: its block and its parts. -/
abbrev Stp := Int × List S
/-- A plan. -/
structure Pln where
  size : Int
  stash : List R
  waves : List (List Stp)
/-- A step in memory: its parts' slice. -/
structure StV where
  blk : Int
  A : Option Addr
  c : Nat
  parts : List S
def StV.st (s : StV) : Stp := (s.blk, s.parts)
/-- A wave in memory. -/
structure WvV where
  A : Option Addr
  c : Nat
  steps : List StV
def WvV.wv (v : WvV) : List Stp := v.steps.map StV.st
/-- A plan in memory. -/
structure PlV where
  size : Int
  SA : Option Addr
  sc : Nat
  stash : List R
  WA : Option Addr
  wc : Nat
  waves : List WvV
def PlV.pln (p : PlV) : Pln := ⟨p.size, p.stash, p.waves.map WvV.wv⟩
def PlV.cells (p : PlV) : Array Value := #[.int .i64 p.size, .slice p.SA p.stash.length p.sc, .slice p.WA p.waves.length p.wc]
/-- A step's parts read. -/
structure StOk (w : World) (B : Nat) (s : StV) : Prop where
  rd : Sc.Rd w B s.A s.parts
  cap : s.parts.length ≤ s.c ∧ s.c ≤ 9223372036854775807
  no : s.A = none → s.parts.length = 0 ∧ s.c = 0
  b : I64 s.blk
def RdSt (w : World) (B : Nat) (A : Option Addr) (l : List StV) : Prop := ∀ k s, l[k]? = some s → ∃ b off, A = some ⟨b, off, none⟩ ∧ b < B ∧
  w.cell? ⟨b, off + k * 2, none⟩ = some (.int .i64 s.blk) ∧ w.cell? ⟨b, off + k * 2 + 1, none⟩ = some (.slice s.A s.parts.length s.c) ∧ StOk w B s
structure WvOk (w : World) (B : Nat) (v : WvV) : Prop where
  rd : RdSt w B v.A v.steps
  cap : v.steps.length ≤ v.c ∧ v.c ≤ 9223372036854775807
  no : v.A = none → v.steps.length = 0 ∧ v.c = 0
def RdWv (w : World) (B : Nat) (A : Option Addr) (l : List WvV) : Prop := ∀ k v, l[k]? = some v → ∃ b off, A = some ⟨b, off, none⟩ ∧ b < B ∧
  w.cell? ⟨b, off + k, none⟩ = some (.slice v.A v.steps.length v.c) ∧ WvOk w B v
structure PlOk (w : World) (B : Nat) (p : PlV) : Prop where
  st : Rd w B p.SA p.stash
  scap : p.stash.length ≤ p.sc ∧ p.sc ≤ 9223372036854775807
  sno : p.SA = none → p.stash.length = 0 ∧ p.sc = 0
  si : IR p.stash
  wv : RdWv w B p.WA p.waves
  wcap : p.waves.length ≤ p.wc ∧ p.wc ≤ 9223372036854775807
  wno : p.WA = none → p.waves.length = 0 ∧ p.wc = 0
  sz : I64 p.size
theorem StOk.keep {w w' : World} {B : Nat} {s : StV} (h : StOk w B s) (hk : ∀ p : Addr, p.block < B → w'.cell? p = w.cell? p) : StOk w' B s := ⟨h.rd.keep hk, h.cap, h.no, h.b⟩
theorem RdSt.keep {w w' : World} {B : Nat} {A : Option Addr} {l : List StV} (h : RdSt w B A l) (hk : ∀ p : Addr, p.block < B → w'.cell? p = w.cell? p) : RdSt w' B A l := by
  intro k s hs
  obtain ⟨b, off, e, hb, h0, h1, h2⟩ := h k s hs
  exact ⟨b, off, e, hb, (hk _ hb).trans h0, (hk _ hb).trans h1, h2.keep hk⟩
theorem WvOk.keep {w w' : World} {B : Nat} {v : WvV} (h : WvOk w B v) (hk : ∀ p : Addr, p.block < B → w'.cell? p = w.cell? p) : WvOk w' B v := ⟨h.rd.keep hk, h.cap, h.no⟩
theorem RdWv.keep {w w' : World} {B : Nat} {A : Option Addr} {l : List WvV} (h : RdWv w B A l) (hk : ∀ p : Addr, p.block < B → w'.cell? p = w.cell? p) : RdWv w' B A l := by
  intro k s hs
  obtain ⟨b, off, e, hb, h0, h1⟩ := h k s hs
  exact ⟨b, off, e, hb, (hk _ hb).trans h0, h1.keep hk⟩
theorem PlOk.keep {w w' : World} {B : Nat} {p : PlV} (h : PlOk w B p) (hk : ∀ p : Addr, p.block < B → w'.cell? p = w.cell? p) : PlOk w' B p := ⟨h.st.keep hk, h.scap, h.sno, h.si, h.wv.keep hk, h.wcap, h.wno, h.sz⟩
theorem StOk.below {w w' : World} {B B' : Nat} {s : StV} (h : StOk w B s) (hb : Below B' w w') (hB : B ≤ B') : StOk w' B s := h.keep fun _ hp => hb.cell (by omega)
theorem RdSt.below {w w' : World} {B B' : Nat} {A : Option Addr} {l : List StV} (h : RdSt w B A l) (hb : Below B' w w') (hB : B ≤ B') : RdSt w' B A l := h.keep fun _ hp => hb.cell (by omega)
theorem WvOk.below {w w' : World} {B B' : Nat} {v : WvV} (h : WvOk w B v) (hb : Below B' w w') (hB : B ≤ B') : WvOk w' B v := h.keep fun _ hp => hb.cell (by omega)
theorem RdWv.below {w w' : World} {B B' : Nat} {A : Option Addr} {l : List WvV} (h : RdWv w B A l) (hb : Below B' w w') (hB : B ≤ B') : RdWv w' B A l := h.keep fun _ hp => hb.cell (by omega)
theorem PlOk.below {w w' : World} {B B' : Nat} {p : PlV} (h : PlOk w B p) (hb : Below B' w w') (hB : B ≤ B') : PlOk w' B p := h.keep fun _ hp => hb.cell (by omega)
theorem StOk.more {w : World} {B B' : Nat} {s : StV} (h : StOk w B s) (hB : B ≤ B') : StOk w B' s := ⟨h.rd.more hB, h.cap, h.no, h.b⟩
theorem RdSt.more {w : World} {B B' : Nat} {A : Option Addr} {l : List StV} (h : RdSt w B A l) (hB : B ≤ B') : RdSt w B' A l := by
  intro k s hs
  obtain ⟨b, off, e, hb, h0, h1, h2⟩ := h k s hs
  exact ⟨b, off, e, by omega, h0, h1, h2.more hB⟩
theorem WvOk.more {w : World} {B B' : Nat} {v : WvV} (h : WvOk w B v) (hB : B ≤ B') : WvOk w B' v := ⟨h.rd.more hB, h.cap, h.no⟩
theorem RdWv.more {w : World} {B B' : Nat} {A : Option Addr} {l : List WvV} (h : RdWv w B A l) (hB : B ≤ B') : RdWv w B' A l := by
  intro k s hs
  obtain ⟨b, off, e, hb, h0, h1⟩ := h k s hs
  exact ⟨b, off, e, by omega, h0, h1.more hB⟩
theorem PlOk.more {w : World} {B B' : Nat} {p : PlV} (h : PlOk w B p) (hB : B ≤ B') : PlOk w B' p := ⟨h.st.more hB, h.scap, h.sno, h.si, h.wv.more hB, h.wcap, h.wno, h.sz⟩
theorem PlOk.up {w w' : World} {p : PlV} (h : PlOk w w.heap.size p) (hb : Below w.heap.size w w') : PlOk w' w'.heap.size p := (h.below hb (Nat.le_refl _)).more hb.size
/-! ### What a plan must be -/
def blocksN (n : Int) : Int := (n + 63) / 64
/-- Can a part be read where some blocks are written? -/
def PartP (size tail stash : Int) (wr : Int → Bool) (x : S) : Prop :=
  x.at_ ≤ (if x.src = 1 then tail else if x.src = 2 then stash else size) ∧ x.len ≤ (if x.src = 1 then tail else if x.src = 2 then stash else size) - x.at_ ∧ (x.src = 0 → ∀ b, x.at_ / 64 ≤ b → b * 64 < x.at_ + x.len → wr b = false)
def StepP (n size tail stash : Int) (wr : Int → Bool) (s : Stp) : Prop :=
  0 ≤ s.1 ∧ s.1 < blocksN n ∧ Sc.MayP s.2 ∧ (Sc.joinL s.2).length = s.2.length ∧ Sc.tot s.2 = min 64 (n - 64 * s.1) ∧ ∀ x ∈ s.2, PartP size tail stash wr x
/-- The blocks that a list of steps writes, with those that were written. -/
def wrote (wr : Int → Bool) (l : List Stp) : Int → Bool := l.foldl (fun u s => upd u s.1 true) wr
/-- No block twice. -/
def FreshP : (Int → Bool) → List Stp → Prop
  | _, [] => True
  | wr, s :: l => wr s.1 = false ∧ FreshP (upd wr s.1 true) l
def WaveP (n size tail stash : Int) (wr : Int → Bool) (v : List Stp) : Prop := 1 ≤ v.length ∧ v.length ≤ 64 ∧ (∀ s ∈ v, StepP n size tail stash wr s) ∧ FreshP wr v
def WavesP (n size tail stash : Int) : (Int → Bool) → List (List Stp) → Prop
  | _, [] => True
  | wr, v :: l => WaveP n size tail stash wr v ∧ WavesP n size tail stash (wrote wr v) l
/-- May a plan be run on an original and a tail of so many bytes? -/
def PlanP (p : Pln) (size tail : Int) : Prop :=
  0 ≤ p.size ∧ p.size ≤ 1048576 ∧ Right p.stash ∧ (∀ r ∈ p.stash, r.2 ≤ size) ∧ WavesP p.size size tail (tot p.stash) (fun _ => false) p.waves
end Go.Proofs.YtblibmalommdkaaGreat

/-
  The small functions about blocks: blocks, length, within, joined; the reference's Blocks and stashed.
-/
namespace Go.Proofs.YtblibmalommdkaaGreat
open Go.RowKit
theorem tdiv64 (x : Int) (h : 0 ≤ x) : x.tdiv 64 = x / 64 := Int.tdiv_eq_ediv_of_nonneg h
set_option maxRecDepth 100000 in
theorem blocks_any (n : Int) (w : World) (h0 : 0 ≤ n) (h1 : n ≤ 1099511627776) : Calls Tryz.prog 59 #[.int .i64 n] w fun e w' => e = .returned (.int .i64 (blocksN n)) ∧ w = w' := by
  have q1 : IntKind.i64.wrap (n + 64) = n + 64 := IntWalk.i64_in _ (by omega)
  have q2 : IntKind.i64.wrap (n + 64 - 1) = n + 63 := by rw [IntWalk.i64_in _ (by omega)]; omega
  have q3 : (n + 63).tdiv 64 = blocksN n := tdiv64 _ (by omega)
  have q4 : IntKind.i64.wrap (blocksN n) = blocksN n := IntWalk.i64_in _ (by unfold blocksN; omega)
  go_enter Tryz.func59, Tryz.ntmps59
  go_wp2_with fail
  go_ret
  exact ⟨rfl, rfl⟩
set_option maxRecDepth 100000 in
theorem Blocks_any (n : Int) (w : World) (h0 : 0 ≤ n) (h1 : n ≤ 1099511627776) : Calls Tryz.prog 68 #[.int .i64 n] w fun e w' => e = .returned (.int .i64 (blocksN n)) ∧ w = w' := by
  have q1 : IntKind.i64.wrap (n + 63) = n + 63 := IntWalk.i64_in _ (by omega)
  have q3 : (n + 63).tdiv 64 = blocksN n := tdiv64 _ (by omega)
  have q4 : IntKind.i64.wrap (blocksN n) = blocksN n := IntWalk.i64_in _ (by unfold blocksN; omega)
  go_enter Tryz.func68, Tryz.ntmps68
  go_wp2_with fail
  go_ret
  exact ⟨rfl, rfl⟩
set_option maxRecDepth 100000 in
theorem length_any (b n : Int) (w : World) (h0 : 0 ≤ b) (h1 : b ≤ 1099511627776) (h2 : 0 ≤ n) (h3 : n ≤ 1099511627776) : Calls Tryz.prog 62 #[.int .i64 b, .int .i64 n] w fun e w' => e = .returned (.int .i64 (min 64 (n - 64 * b))) ∧ w = w' := by
  have q1 : IntKind.i64.wrap (b * 64) = 64 * b := by rw [IntWalk.i64_in _ (by omega)]; omega
  have q2 : IntKind.i64.wrap (n - 64 * b) = n - 64 * b := IntWalk.i64_in _ (by omega)
  go_enter Tryz.func62, Tryz.ntmps62
  go_wp2_with fail
  all_goals
    go_ret
    exact ⟨Sc.ret_int (by omega), rfl⟩
set_option maxRecDepth 100000 in
theorem within_any (s : S) (n : Int) (w : World) (hs : Sc.okS s) (h0 : 0 ≤ n) (h1 : n ≤ 9223372036854775807) : Calls Tryz.prog 77 #[.agg #[.int .i64 s.src, .int .i64 s.at_, .int .i64 s.len], .int .i64 n] w fun e w' => e = .returned (.bool (decide (s.at_ ≤ n) && decide (s.len ≤ n - s.at_))) ∧ Below w.heap.size w w' := by
  unfold Sc.okS at hs
  have q1 : IntKind.i64.wrap (n - s.at_) = n - s.at_ := IntWalk.i64_in _ (by omega)
  obtain ⟨src, at_, len⟩ := s
  simp only at *
  by_cases h : at_ ≤ n
  · go_enter Tryz.func77, Tryz.ntmps77
    go_wp2_with fail
    go_ret
    exact ⟨Sc.ret_bool (by simp [h]), (Below.refl _ _).alloc (Nat.le_refl _) _⟩
  · have h' : n < at_ := by omega
    go_enter Tryz.func77, Tryz.ntmps77
    go_wp2_with fail
    go_ret
    have h2 : ¬ at_ ≤ n := by omega
    exact ⟨Sc.ret_bool (by simp [h2]), (Below.refl _ _).alloc (Nat.le_refl _) _⟩
theorem mayB_of {l : List S} (h : Sc.MayP l) : Sc.mayB l = true := Sc.mayB_iff.2 h
theorem JoinL_may {l : List S} (h : Sc.MayP l) : Sc.JoinL l = Sc.joinL l := by unfold Sc.JoinL; rw [if_pos h]
open Classical in
/-- Is a list one that may be, and joined? -/
noncomputable def joinedB (l : List S) : Bool := decide (Sc.MayP l ∧ (Sc.joinL l).length = l.length)
theorem joinedB_of {l : List S} (h : Sc.MayP l ∧ (Sc.joinL l).length = l.length) : joinedB l = true := by unfold joinedB; simpa using h
theorem joinedB_not {l : List S} (h : ¬ (Sc.MayP l ∧ (Sc.joinL l).length = l.length)) : joinedB l = false := by unfold joinedB; simpa using h
theorem joinedB_iff {l : List S} : joinedB l = true ↔ Sc.MayP l ∧ (Sc.joinL l).length = l.length := by unfold joinedB; simp
set_option maxRecDepth 100000 in
theorem joined_any (A : Option Addr) (len cap : Nat) (w : World) (l : List S) (hlen : l.length = len) (hr : Sc.Rd w w.heap.size A l) (hm : len ≤ 9223372036854775807) :
    Calls Tryz.prog 60 #[.slice A len cap] w fun e w' => e = .returned (.bool (joinedB l)) ∧ Below w.heap.size w w' := by
  have H := Lib.hid hlen; have HR := Lib.hid hr
  clear hlen hr
  by_cases hM : Sc.MayP l
  · have HM := Lib.hid (mayB_of hM)
    have HJ := Lib.hid (JoinL_may hM)
    go_enter Tryz.func60, Tryz.ntmps60
    go_wp2_with fail
    refine (Sc.may_any A len cap w l H.out HR.out hm).mono ?_
    rw [HM.out]
    rintro e w1 ⟨rfl, hb1⟩
    have HB1 := Lib.hid hb1
    have HR1 := Lib.hid ((HR.out.below hb1 (Nat.le_refl _)).more hb1.size)
    clear hb1
    go_wp2_with fail
    refine (Sc.Join_any A len cap w1 l H.out HR1.out hm).mono ?_
    rintro e w2 ⟨⟨A2, n2, c2, rfl, ho⟩, hb2⟩
    have HB2 := Lib.hid (HB1.out.trans (hb2.mono HB1.out.size))
    have hl2 := ho.1
    rw [HJ.out] at hl2
    clear ho hb2
    have hv : (((n2 : Int) == (len : Int)) : Bool) = joinedB l := by
      rw [← hl2, ← H.out]
      by_cases he : (Sc.joinL l).length = l.length
      · rw [joinedB_of ⟨hM, he⟩]; simp [he]
      · rw [joinedB_not (fun h => he h.2)]; simp; omega
    go_wp2_with fail
    go_ret
    exact ⟨Sc.ret_bool rfl, HB2.out⟩
  · have HM := Lib.hid (Sc.mayB_not hM)
    have HJ : Hid (joinedB l = false) := Lib.hid (joinedB_not fun h => hM h.1)
    go_enter Tryz.func60, Tryz.ntmps60
    go_wp2_with fail
    refine (Sc.may_any A len cap w l H.out HR.out hm).mono ?_
    rw [HM.out]
    rintro e w1 ⟨rfl, hb1⟩
    have HB1 := Lib.hid hb1
    clear hb1
    go_wp2_with fail
    go_ret
    exact ⟨Sc.ret_bool HJ.out.symm, HB1.out⟩
end Go.Proofs.YtblibmalommdkaaGreat
