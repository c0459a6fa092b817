/-
  What sum, fits and Free answer and leave.
-/
import Derived.Test.YtlplhllcohoeaaaWalkb
import Derived.Deep.LoopGhost
import Derived.Deep.RegionHeld3
namespace Go.Proofs.Ytlplhllcohoeaaa
open Go.RowKit
section
variable {db mb : Nat} {d : Dv} {lo : Int} {N : Nat} {S : Nat → Prop} {F : Option Nat} {Ap : Option Addr} {np cp : Nat} {ps : List (Int × Value)}
def Dv.sum (d : Dv) : Int := match d.f with | none => 0 | some f => f.now.length
theorem below_grown {w w' : World} {B : Nat} {row : Option Nat} (h : w.grownBy w' row) (hr : ∀ r, row = some r → B ≤ r) (hB : B ≤ w.heap.size) : Below B w w' := by
  refine ⟨h.os, h.tape, h.output, h.size, fun k hk => h.block k (by omega) ?_⟩
  intro e
  have := hr k e.symm
  omega
theorem sum_none (w : World) (h : Dk w db mb d lo N S none Ap np cp ps) :
    Calls Try.prog 35 #[.pointer (some ⟨db, 0, none⟩)] w fun e w' => e = .returned (.int .i64 0) ∧ Below w.heap.size w w' := by
  obtain ⟨_, _, _, _, _, c5, _⟩ := h.cells
  obtain ⟨w1, hrun, hr1, hg1, hs1⟩ := h.map.range
  have hlt := h.lt _ h.sd
  have HB := Lib.hid (below_grown (B := w.heap.size) hg1 (by simp) (Nat.le_refl _))
  have hdone := hr1.done (.inr rfl) 0
  clear h hr1 hg1
  go_enter Try.func35, Try.ntmps35
  go_wp2_with fail
  go_loopg [3] 1 (fun g v wr => v = .int .i64 0 ∧ wr = w1)
  case atStart => exact ⟨rfl, rfl⟩
  case round =>
    obtain ⟨rfl, rfl⟩ := hrel
    go_wp2_with fail
    go_ret
    exact ⟨rfl, HB.out⟩
theorem sum_file (w : World) {fb : Nat} (h : Dk w db mb d lo N S (some fb) Ap np cp ps) :
    Calls Try.prog 35 #[.pointer (some ⟨db, 0, none⟩)] w fun e w' => e = .returned (.int .i64 d.sum) ∧ Below w.heap.size w w' := by
  obtain ⟨_, _, _, _, _, c5, _⟩ := h.cells
  obtain ⟨f, An, cn, As, cs, q1, hf, _⟩ := h.fat
  have q : d.sum = f.now.length := by simp [Dv.sum, q1]
  rw [q]
  have hln := hf.ln
  obtain ⟨f0, _, _⟩ := hf.cells
  have hfb := h.lt _ hf.sf
  obtain ⟨w1, hrun, hr1, hg1, hs1⟩ := h.map.range
  obtain ⟨w2, hnext, hr2, hg2, hs2, hent⟩ := hr1.one 0
  have HB : Hid (Below w.heap.size w w2) := Lib.hid ((below_grown (B := w.heap.size) hg1 (by simp) (Nat.le_refl _)).trans (below_grown hg2 (by simp) (by omega)))
  have hdone := hr2.done (.inl rfl) 0
  have e0 := (HB.out.cell (p := ⟨fb, 0, none⟩) hfb).trans f0
  have q2 : IntKind.i64.wrap ((0 : Int) + f.now.length) = f.now.length := by rw [Int.zero_add]; exact IntWalk.i64_in _ (by omega)
  clear h hr1 hr2 hg1 hg2 hf q q1 hs2
  generalize f.now.length = nl at *
  rw [show ptr (some fb) = Value.pointer (some ⟨fb, 0, none⟩) from rfl] at hnext hent
  go_enter Try.func35, Try.ntmps35
  go_wp2_with fail
  go_loopg [3] 1 (fun g v wr => (g = 1 ∧ v = .int .i64 0 ∧ wr = w1) ∨ (g = 0 ∧ v = .int .i64 nl ∧ wr = w2))
  case atStart => exact .inl ⟨rfl, rfl, rfl⟩
  case round =>
    rcases hrel with ⟨rfl, rfl, rfl⟩ | ⟨rfl, rfl, rfl⟩
    · go_wp2_with fail
      go_roundg 0
      case measure => omega
      case rel => exact .inr ⟨rfl, rfl, rfl⟩
    · go_wp2_with fail
      go_ret
      exact ⟨rfl, HB.out⟩
theorem sum_any (w : World) (h : Dk w db mb d lo N S F Ap np cp ps) :
    Calls Try.prog 35 #[.pointer (some ⟨db, 0, none⟩)] w fun e w' => e = .returned (.int .i64 d.sum) ∧ Below w.heap.size w w' := by
  cases F with
  | none =>
    have q : d.sum = 0 := by simp [Dv.sum, h.gone]
    rw [q]
    exact sum_none w h
  | some fb => exact sum_file w h
theorem Dk.sum0 {w : World} (h : Dk w db mb d lo N S F Ap np cp ps) : 0 ≤ d.sum ∧ d.sum ≤ 1099511627776 := by
  unfold Dv.sum
  split
  · omega
  · rename_i f hq
    rcases h.file with ⟨_, q⟩ | ⟨_, f', _, _, _, _, _, q, hf, _⟩
    · rw [hq] at q; cases q
    · rw [hq] at q
      injection q with q
      subst q
      have := hf.ln
      omega
theorem Dk.drewN {w : World} (h : Dk w db mb d lo N S F Ap np cp ps) (n : Nat) : Dk (w.drewN n) db mb d lo N S F Ap np cp ps := h.keep (by simp) fun _ _ => rfl
theorem Dk.up {w w' : World} (h : Dk w db mb d lo N S F Ap np cp ps) (hb : Below w.heap.size w w') : Dk w' db mb d lo N S F Ap np cp ps := h.keep hb.size fun g hg => hb.block g (h.lt g hg)
def fitE (d : Dv) (size : Int) : Int := if d.sum < size ∧ d.room < size then 7 else 0
theorem fits_file (w : World) {fb : Nat} (h : Dk w db mb d lo N S (some fb) Ap np cp ps) (size : Int) (h0 : 0 ≤ size) (h1 : size ≤ 4398046511104) :
    Calls Try.prog 25 #[.pointer (some ⟨db, 0, none⟩), .pointer (some ⟨fb, 0, none⟩), .int .i64 size] w fun e w' => e = .returned (.int .i64 (fitE d size)) ∧ Below w.heap.size w w' := by
  obtain ⟨c0, _⟩ := h.cells
  have hs0 := h.sum0
  obtain ⟨f, An, cn, As, cs, q1, hf, _⟩ := h.fat
  have q : d.sum = f.now.length := by simp [Dv.sum, q1]
  obtain ⟨f0, _, _⟩ := hf.cells
  have hdb := h.lt _ h.sd
  have HS := sum_any w.drew (h.drewN 1)
  rw [q] at HS
  clear hf q1
  have HH := Lib.hid h
  clear h
  by_cases hc : d.sum < size
  · have i1 : IntKind.i64.wrap ((f.now.length : Int) - f.now.length) = 0 := by rw [Int.sub_self]; rfl
    have i2 : IntKind.i64.wrap ((0 : Int) + size) = size := by rw [Int.zero_add]; exact IntWalk.i64_in _ (by omega)
    have i3 : IntKind.i64.wrap size = size := IntWalk.i64_in _ (by omega)
    have i4 : IntKind.i64.wrap (0 : Int) = 0 := rfl
    by_cases hr : d.room < size
    · rw [show fitE d size = 7 from if_pos ⟨hc, hr⟩]
      rw [q] at hc
      generalize f.now.length = nl at *
      go_enter Try.func25, Try.ntmps25
      go_wp2_with fail
      go_region_held3 (fun w' => w'.cell? ⟨db, 0, none⟩ = some (.int .i64 d.room)) (first | go_keep | (exact (hp1.cell (p := ⟨db, 0, none⟩) hdb).trans c0))
        ((go_at_call_of 35 (Value.pointer (some ⟨db, 0, Option.none⟩)); refine HS.mono ?_; rintro e wp1 ⟨rfl, hp1⟩))
      have HP := Lib.hid hp1
      clear hp1 HS
      go_wp2_with fail
      go_ret
      exact ⟨rfl, (belowDrewN (Below.refl _ _) 1).trans HP.out⟩
    · rw [show fitE d size = 0 from if_neg (fun h => hr h.2)]
      rw [q] at hc
      generalize f.now.length = nl at *
      go_enter Try.func25, Try.ntmps25
      go_wp2_with fail
      go_region_held3 (fun w' => w'.cell? ⟨db, 0, none⟩ = some (.int .i64 d.room)) (first | go_keep | (exact (hp1.cell (p := ⟨db, 0, none⟩) hdb).trans c0))
        ((go_at_call_of 35 (Value.pointer (some ⟨db, 0, Option.none⟩)); refine HS.mono ?_; rintro e wp1 ⟨rfl, hp1⟩))
      have HP := Lib.hid hp1
      clear hp1 HS
      go_wp2_with fail
      go_ret
      exact ⟨rfl, (belowDrewN (Below.refl _ _) 1).trans HP.out⟩
  · rw [show fitE d size = 0 from if_neg (fun h => hc h.1)]
    rw [q] at hc
    clear HS
    have qd : decide ((f.now.length : Int) < size) = false := decide_eq_false hc
    generalize f.now.length = nl at *
    go_enter Try.func25, Try.ntmps25
    go_wp2_with fail
    go_quiet (fail)
    go_wp2_with fail
    go_ret
    exact ⟨rfl, belowDrewN (Below.refl _ _) _⟩
theorem fits_none (w : World) (h : Dk w db mb d lo N S none Ap np cp ps) (size : Int) (h0 : 0 ≤ size) (h1 : size ≤ 4398046511104) :
    Calls Try.prog 25 #[.pointer (some ⟨db, 0, none⟩), .pointer none, .int .i64 size] w fun e w' => e = .returned (.int .i64 (fitE d size)) ∧ Below w.heap.size w w' := by
  obtain ⟨c0, _, _, _, _, c5, _⟩ := h.cells
  have q : d.sum = 0 := by simp [Dv.sum, h.gone]
  have hdb := h.lt _ h.sd
  have HS := sum_any w.drew (h.drewN 1)
  have hlen : (Builtin.len_ #[56] 3 #[.map (some mb)]).run Try.prog w = .ok (.int .i64 0) w := h.map.len 3
  rw [q] at HS
  have HH := Lib.hid h
  clear h
  by_cases hc : d.sum < size
  · have i2 : IntKind.i64.wrap ((0 : Int) + size) = size := by rw [Int.zero_add]; exact IntWalk.i64_in _ (by omega)
    have i3 : IntKind.i64.wrap size = size := IntWalk.i64_in _ (by omega)
    have i4 : IntKind.i64.wrap (0 : Int) = 0 := rfl
    by_cases hr : d.room < size
    · rw [show fitE d size = 7 from if_pos ⟨hc, hr⟩]
      rw [q] at hc
      go_enter Try.func25, Try.ntmps25
      go_wp2_with fail
      go_region_held3 (fun w' => w'.cell? ⟨db, 0, none⟩ = some (.int .i64 d.room)) (first | go_keep | (exact (hp1.cell (p := ⟨db, 0, none⟩) hdb).trans c0))
        ((go_at_call_of 35 (Value.pointer (some ⟨db, 0, Option.none⟩)); refine HS.mono ?_; rintro e wp1 ⟨rfl, hp1⟩))
      have HP := Lib.hid hp1
      clear hp1 HS
      go_wp2_with fail
      go_ret
      exact ⟨rfl, (belowDrewN (Below.refl _ _) 1).trans HP.out⟩
    · rw [show fitE d size = 0 from if_neg (fun h => hr h.2)]
      rw [q] at hc
      go_enter Try.func25, Try.ntmps25
      go_wp2_with fail
      go_region_held3 (fun w' => w'.cell? ⟨db, 0, none⟩ = some (.int .i64 d.room)) (first | go_keep | (exact (hp1.cell (p := ⟨db, 0, none⟩) hdb).trans c0))
        ((go_at_call_of 35 (Value.pointer (some ⟨db, 0, Option.none⟩)); refine HS.mono ?_; rintro e wp1 ⟨rfl, hp1⟩))
      have HP := Lib.hid hp1
      clear hp1 HS
      go_wp2_with fail
      go_ret
      exact ⟨rfl, (belowDrewN (Below.refl _ _) 1).trans HP.out⟩
  · rw [show fitE d size = 0 from if_neg (fun h => hc h.1)]
    rw [q] at hc
    clear HS
    have qd : decide ((0 : Int) < size) = false := decide_eq_false hc
    go_enter Try.func25, Try.ntmps25
    go_wp2_with fail
    go_quiet (fail)
    go_wp2_with fail
    go_ret
    exact ⟨rfl, belowDrewN (Below.refl _ _) _⟩
end
end Go.Proofs.Ytlplhllcohoeaaa
