/-
  A plan in memory: its steps, waves, the plan; what they say, plainly.
-/
import Derived.Test.YteceephenfmdoaaSB
import Derived.Test.YteceephenfmdoaaRC
import Derived.Test.YteceephenfmdoaaMSets
namespace Go.Proofs.Yteceephenfmdoaa
open Go.RowKit
abbrev S := Sc.S
/-- A step: its block and its parts. -/
abbrev Stp := Int × List S
/-- A plan. -/
structure Pln where
  size : Int
  stash : List R
  waves : List (List Stp)
/-- A step in memory: its parts' slice. -/
structure StV where
  blk : Int
  A : Option Addr
  c : Nat
  parts : List S
def StV.st (s : StV) : Stp := (s.blk, s.parts)
/-- A wave in memory. -/
structure WvV where
  A : Option Addr
  c : Nat
  steps : List StV
def WvV.wv (v : WvV) : List Stp := v.steps.map StV.st
/-- A plan in memory. -/
structure PlV where
  size : Int
  SA : Option Addr
  sc : Nat
  stash : List R
  WA : Option Addr
  wc : Nat
  waves : List WvV
def PlV.pln (p : PlV) : Pln := ⟨p.size, p.stash, p.waves.map WvV.wv⟩
def PlV.cells (p : PlV) : Array Value := #[.int .i64 p.size, .slice p.SA p.stash.length p.sc, .slice p.WA p.waves.length p.wc]
/-- A step's parts read. -/
structure StOk (w : World) (B : Nat) (s : StV) : Prop where
  rd : Sc.Rd w B s.A s.parts
  cap : s.parts.length ≤ s.c ∧ s.c ≤ 9223372036854775807
  no : s.A = none → s.parts.length = 0 ∧ s.c = 0
  b : I64 s.blk
def RdSt (w : World) (B : Nat) (A : Option Addr) (l : List StV) : Prop := ∀ k s, l[k]? = some s → ∃ b off, A = some ⟨b, off, none⟩ ∧ b < B ∧
  w.cell? ⟨b, off + k * 2, none⟩ = some (.int .i64 s.blk) ∧ w.cell? ⟨b, off + k * 2 + 1, none⟩ = some (.slice s.A s.parts.length s.c) ∧ StOk w B s
structure WvOk (w : World) (B : Nat) (v : WvV) : Prop where
  rd : RdSt w B v.A v.steps
  cap : v.steps.length ≤ v.c ∧ v.c ≤ 9223372036854775807
  no : v.A = none → v.steps.length = 0 ∧ v.c = 0
def RdWv (w : World) (B : Nat) (A : Option Addr) (l : List WvV) : Prop := ∀ k v, l[k]? = some v → ∃ b off, A = some ⟨b, off, none⟩ ∧ b < B ∧
  w.cell? ⟨b, off + k, none⟩ = some (.slice v.A v.steps.length v.c) ∧ WvOk w B v
structure PlOk (w : World) (B : Nat) (p : PlV) : Prop where
  st : Rd w B p.SA p.stash
  scap : p.stash.length ≤ p.sc ∧ p.sc ≤ 9223372036854775807
  sno : p.SA = none → p.stash.length = 0 ∧ p.sc = 0
  si : IR p.stash
  wv : RdWv w B p.WA p.waves
  wcap : p.waves.length ≤ p.wc ∧ p.wc ≤ 9223372036854775807
  wno : p.WA = none → p.waves.length = 0 ∧ p.wc = 0
  sz : I64 p.size
theorem StOk.keep {w w' : World} {B : Nat} {s : StV} (h : StOk w B s) (hk : ∀ p : Addr, p.block < B → w'.cell? p = w.cell? p) : StOk w' B s := ⟨h.rd.keep hk, h.cap, h.no, h.b⟩
theorem RdSt.keep {w w' : World} {B : Nat} {A : Option Addr} {l : List StV} (h : RdSt w B A l) (hk : ∀ p : Addr, p.block < B → w'.cell? p = w.cell? p) : RdSt w' B A l := by
  intro k s hs
  obtain ⟨b, off, e, hb, h0, h1, h2⟩ := h k s hs
  exact ⟨b, off, e, hb, (hk _ hb).trans h0, (hk _ hb).trans h1, h2.keep hk⟩
theorem WvOk.keep {w w' : World} {B : Nat} {v : WvV} (h : WvOk w B v) (hk : ∀ p : Addr, p.block < B → w'.cell? p = w.cell? p) : WvOk w' B v := ⟨h.rd.keep hk, h.cap, h.no⟩
theorem RdWv.keep {w w' : World} {B : Nat} {A : Option Addr} {l : List WvV} (h : RdWv w B A l) (hk : ∀ p : Addr, p.block < B → w'.cell? p = w.cell? p) : RdWv w' B A l := by
  intro k s hs
  obtain ⟨b, off, e, hb, h0, h1⟩ := h k s hs
  exact ⟨b, off, e, hb, (hk _ hb).trans h0, h1.keep hk⟩
theorem PlOk.keep {w w' : World} {B : Nat} {p : PlV} (h : PlOk w B p) (hk : ∀ p : Addr, p.block < B → w'.cell? p = w.cell? p) : PlOk w' B p := ⟨h.st.keep hk, h.scap, h.sno, h.si, h.wv.keep hk, h.wcap, h.wno, h.sz⟩
theorem StOk.below {w w' : World} {B B' : Nat} {s : StV} (h : StOk w B s) (hb : Below B' w w') (hB : B ≤ B') : StOk w' B s := h.keep fun _ hp => hb.cell (by omega)
theorem RdSt.below {w w' : World} {B B' : Nat} {A : Option Addr} {l : List StV} (h : RdSt w B A l) (hb : Below B' w w') (hB : B ≤ B') : RdSt w' B A l := h.keep fun _ hp => hb.cell (by omega)
theorem WvOk.below {w w' : World} {B B' : Nat} {v : WvV} (h : WvOk w B v) (hb : Below B' w w') (hB : B ≤ B') : WvOk w' B v := h.keep fun _ hp => hb.cell (by omega)
theorem RdWv.below {w w' : World} {B B' : Nat} {A : Option Addr} {l : List WvV} (h : RdWv w B A l) (hb : Below B' w w') (hB : B ≤ B') : RdWv w' B A l := h.keep fun _ hp => hb.cell (by omega)
theorem PlOk.below {w w' : World} {B B' : Nat} {p : PlV} (h : PlOk w B p) (hb : Below B' w w') (hB : B ≤ B') : PlOk w' B p := h.keep fun _ hp => hb.cell (by omega)
theorem StOk.more {w : World} {B B' : Nat} {s : StV} (h : StOk w B s) (hB : B ≤ B') : StOk w B' s := ⟨h.rd.more hB, h.cap, h.no, h.b⟩
theorem RdSt.more {w : World} {B B' : Nat} {A : Option Addr} {l : List StV} (h : RdSt w B A l) (hB : B ≤ B') : RdSt w B' A l := by
  intro k s hs
  obtain ⟨b, off, e, hb, h0, h1, h2⟩ := h k s hs
  exact ⟨b, off, e, by omega, h0, h1, h2.more hB⟩
theorem WvOk.more {w : World} {B B' : Nat} {v : WvV} (h : WvOk w B v) (hB : B ≤ B') : WvOk w B' v := ⟨h.rd.more hB, h.cap, h.no⟩
theorem RdWv.more {w : World} {B B' : Nat} {A : Option Addr} {l : List WvV} (h : RdWv w B A l) (hB : B ≤ B') : RdWv w B' A l := by
  intro k s hs
  obtain ⟨b, off, e, hb, h0, h1⟩ := h k s hs
  exact ⟨b, off, e, by omega, h0, h1.more hB⟩
theorem PlOk.more {w : World} {B B' : Nat} {p : PlV} (h : PlOk w B p) (hB : B ≤ B') : PlOk w B' p := ⟨h.st.more hB, h.scap, h.sno, h.si, h.wv.more hB, h.wcap, h.wno, h.sz⟩
theorem PlOk.up {w w' : World} {p : PlV} (h : PlOk w w.heap.size p) (hb : Below w.heap.size w w') : PlOk w' w'.heap.size p := (h.below hb (Nat.le_refl _)).more hb.size
/-! ### What a plan must be -/
def blocksN (n : Int) : Int := (n + 63) / 64
/-- Can a part be read where some blocks are written? -/
def PartP (size tail stash : Int) (wr : Int → Bool) (x : S) : Prop :=
  x.at_ ≤ (if x.src = 1 then tail else if x.src = 2 then stash else size) ∧ x.len ≤ (if x.src = 1 then tail else if x.src = 2 then stash else size) - x.at_ ∧ (x.src = 0 → ∀ b, x.at_ / 64 ≤ b → b * 64 < x.at_ + x.len → wr b = false)
def StepP (n size tail stash : Int) (wr : Int → Bool) (s : Stp) : Prop :=
  0 ≤ s.1 ∧ s.1 < blocksN n ∧ Sc.MayP s.2 ∧ (Sc.joinL s.2).length = s.2.length ∧ Sc.tot s.2 = min 64 (n - 64 * s.1) ∧ ∀ x ∈ s.2, PartP size tail stash wr x
/-- The blocks that a list of steps writes, with those that were written. -/
def wrote (wr : Int → Bool) (l : List Stp) : Int → Bool := l.foldl (fun u s => upd u s.1 true) wr
/-- No block twice. -/
def FreshP : (Int → Bool) → List Stp → Prop
  | _, [] => True
  | wr, s :: l => wr s.1 = false ∧ FreshP (upd wr s.1 true) l
def WaveP (n size tail stash : Int) (wr : Int → Bool) (v : List Stp) : Prop := 1 ≤ v.length ∧ v.length ≤ 64 ∧ (∀ s ∈ v, StepP n size tail stash wr s) ∧ FreshP wr v
def WavesP (n size tail stash : Int) : (Int → Bool) → List (List Stp) → Prop
  | _, [] => True
  | wr, v :: l => WaveP n size tail stash wr v ∧ WavesP n size tail stash (wrote wr v) l
/-- May a plan be run on an original and a tail of so many bytes? -/
def PlanP (p : Pln) (size tail : Int) : Prop :=
  0 ≤ p.size ∧ p.size ≤ 1048576 ∧ Right p.stash ∧ (∀ r ∈ p.stash, r.2 ≤ size) ∧ WavesP p.size size tail (tot p.stash) (fun _ => false) p.waves
end Go.Proofs.Yteceephenfmdoaa
