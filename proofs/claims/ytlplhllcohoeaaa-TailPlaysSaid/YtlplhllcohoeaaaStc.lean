/-
  One call of the law: append, read, the kinds that do nothing, and Arm.
-/
import Derived.Test.YtlplhllcohoeaaaStb
namespace Go.Proofs.Ytlplhllcohoeaaa
open Go.RowKit
/-- A call's cells. -/
def callC (k at_ n : Int) (A : Option Addr) (m c : Nat) (PA : Option Addr) (pm pc : Nat) : Array Value := #[.int .i64 k, .int .i64 at_, .int .i64 n, .slice A m c, .slice PA pm pc]
structure CallIn (B : Nat) (w : World) (at_ n : Int) (A : Option Addr) (m c : Nat) (b : List Int) (PA : Option Addr) (pm : Nat) (xs : List Int) : Prop where
  a0 : -9223372036854775808 ≤ at_ ∧ at_ ≤ 9223372036854775807
  n0 : -9223372036854775808 ≤ n ∧ n ≤ 9223372036854775807
  hb : b.length = m
  rd : RdB w B A b
  no : A = none → m = 0 ∧ c = 0
  x : xs.length = pm
  hp : pm ≤ 9223372036854775807
  rp : RdI w B PA xs
section
variable {B : Nat} {w w' : World} {sb db tb : Nat} {room : Int} {N : Nat} {dn : Bool} {l sf : List Int} {T : Nat → Prop} {Ah : Option Addr} {ch : Nat} {As : Option Addr} {cs : Nat}
theorem Sv.more (h : Sv B w sb db tb room N dn l sf T Ah ch As cs) {N' : Nat} (hN : N ≤ N') : Sv B w sb db tb room N' dn l sf T Ah ch As cs := ⟨h.head, h.tp.more hN, h.ns, h.bs, h.hv, h.sv⟩
theorem Sv.tpd (h : Sv B w sb db tb room N dn l sf T Ah ch As cs) {N' : Nat} {dn' : Bool} {T' : Nat → Prop} (ht : Tp B w' db tb room N' dn' l sf T') (hf : Fr w w' T T') : Sv B w' sb db tb room N' dn' l sf T' Ah ch As cs := by
  obtain ⟨h1, h2, h3, h4⟩ := h.fr hf
  exact ⟨h1, ht, h2, h.bs, h3, h4⟩
theorem Fr.drew {w w' : World} {S S' : Nat → Prop} (h : Fr w.drew w' S S') : Fr w w' S S' := (Fr.of_below (belowDrewN (Below.refl _ _) 1)).trans h
set_option maxRecDepth 40000 in
set_option maxHeartbeats 2000000 in
theorem step_append (h : Sv B w sb db tb room N dn l sf T Ah ch As cs) (at_ n : Int) (A : Option Addr) (m c : Nat) (b : List Int) (PA : Option Addr) (pm pc : Nat) (xs : List Int) (hc : CallIn B w at_ n A m c b PA pm xs) (hN : N ≤ 900000) (hB : B ≤ w.heap.size) :
    ∃ dn', Calls Try.prog 21 #[.pointer (some ⟨sb, 0, none⟩), .agg (callC 1 at_ n A m c PA pm pc)] w fun e w' => e = .returned (.bool true) ∧ St B w' sb room (N + 600) dn' ∧ Below B w w' := by
  unfold callC
  have hb1 : Below w.heap.size w (w.alloc (.cells #[.int .i64 1, .int .i64 at_, .int .i64 n, .slice A m c, .slice PA pm pc] 53)) := (Below.refl _ _).alloc (Nat.le_refl _) _
  have HH := Lib.hid (h.up hb1)
  have HB := Lib.hid (hb1.mono hB)
  have HC := Lib.hid hc
  have hz := hb1.size
  clear h hc hb1
  by_cases hm : m ≤ 500
  · obtain ⟨dn', hA⟩ := append_state HH.out A m c b HC.out.hb hm (HC.out.rd.below HB.out (Nat.le_refl _)) HC.out.no hN (by omega)
    have HA := Lib.hid hA
    clear hA
    refine ⟨dn', ?_⟩
    go_enter Try.func21, Try.ntmps21
    go_wp2_with fail
    refine HA.out.mono ?_
    rintro e w2 ⟨rfl, hst, hb2⟩
    have HS := Lib.hid hst
    have HB2 := Lib.hid (HB.out.trans hb2)
    clear hst hb2 HA
    go_wp2_with fail
    go_ret
    exact ⟨rfl, HS.out, HB2.out⟩
  · refine ⟨dn, ?_⟩
    go_enter Try.func21, Try.ntmps21
    go_wp2_with fail
    go_ret
    exact ⟨rfl, ⟨_, _, _, _, _, _, _, _, _, HH.out.more (by omega)⟩, HB.out⟩
set_option maxRecDepth 40000 in
set_option maxHeartbeats 2000000 in
theorem step_read (h : Sv B w sb db tb room N dn l sf T Ah ch As cs) (at_ n : Int) (A : Option Addr) (m c : Nat) (b : List Int) (PA : Option Addr) (pm pc : Nat) (xs : List Int) (hc : CallIn B w at_ n A m c b PA pm xs) (hB : B ≤ w.heap.size) :
    Calls Try.prog 21 #[.pointer (some ⟨sb, 0, none⟩), .agg (callC 2 at_ n A m c PA pm pc)] w fun e w' => e = .returned (.bool true) ∧ St B w' sb room (N + 600) dn ∧ Below B w w' := by
  unfold callC
  have hb1 : Below w.heap.size w (w.alloc (.cells #[.int .i64 2, .int .i64 at_, .int .i64 n, .slice A m c, .slice PA pm pc] 53)) := (Below.refl _ _).alloc (Nat.le_refl _) _
  have HH := Lib.hid (h.up hb1)
  have HB := Lib.hid (hb1.mono hB)
  have hz := hb1.size
  have HA := Lib.hid (read_any HH.out at_ n hc.a0.1 hc.a0.2 hc.n0.1 hc.n0.2)
  clear h hc hb1
  go_enter Try.func21, Try.ntmps21
  go_wp2_with fail
  refine HA.out.mono ?_
  rintro e w2 ⟨rfl, hb2⟩
  have HS := Lib.hid (HH.out.up hb2)
  have HB2 := Lib.hid (HB.out.trans (hb2.mono (by omega : B ≤ _)))
  clear hb2 HA HH HB
  go_wp2_with fail
  go_ret
  exact ⟨rfl, ⟨_, _, _, _, _, _, _, _, _, HS.out.more (by omega)⟩, HB2.out⟩
set_option maxRecDepth 40000 in
set_option maxHeartbeats 2000000 in
theorem step_other (h : Sv B w sb db tb room N dn l sf T Ah ch As cs) (k at_ n : Int) (hk : k < 1 ∨ 6 < k) (A : Option Addr) (m c : Nat) (PA : Option Addr) (pm pc : Nat) (hB : B ≤ w.heap.size) :
    Calls Try.prog 21 #[.pointer (some ⟨sb, 0, none⟩), .agg (callC k at_ n A m c PA pm pc)] w fun e w' => e = .returned (.bool true) ∧ St B w' sb room (N + 600) dn ∧ Below B w w' := by
  unfold callC
  have hb1 : Below w.heap.size w (w.alloc (.cells #[.int .i64 k, .int .i64 at_, .int .i64 n, .slice A m c, .slice PA pm pc] 53)) := (Below.refl _ _).alloc (Nat.le_refl _) _
  have HH := Lib.hid (h.up hb1)
  have HB := Lib.hid (hb1.mono hB)
  have k1 : ¬ k = 1 := by omega
  have k2 : ¬ k = 2 := by omega
  have k3 : ¬ k = 3 := by omega
  have k4 : ¬ k = 4 := by omega
  have k5 : ¬ k = 5 := by omega
  have k6 : ¬ k = 6 := by omega
  clear h hb1 hk
  go_enter Try.func21, Try.ntmps21
  go_wp2_with fail
  go_ret
  exact ⟨rfl, ⟨_, _, _, _, _, _, _, _, _, HH.out.more (by omega)⟩, HB.out⟩
set_option maxRecDepth 40000 in
set_option maxHeartbeats 2000000 in
theorem step_arm (h : Sv B w sb db tb room N dn l sf T Ah ch As cs) (at_ n : Int) (A : Option Addr) (m c : Nat) (b : List Int) (PA : Option Addr) (pm pc : Nat) (xs : List Int) (hc : CallIn B w at_ n A m c b PA pm xs) (hB : B ≤ w.heap.size) :
    Calls Try.prog 21 #[.pointer (some ⟨sb, 0, none⟩), .agg (callC 5 at_ n A m c PA pm pc)] w fun e w' => e = .returned (.bool true) ∧ St B w' sb room (N + 600) dn ∧ Below B w w' := by
  unfold callC
  obtain ⟨W, hW⟩ : ∃ W, W = w.alloc (.cells #[.int .i64 5, .int .i64 at_, .int .i64 n, .slice A m c, .slice PA pm pc] 53) := ⟨_, rfl⟩
  have hb1 : Below w.heap.size w W := by rw [hW]; exact (Below.refl _ _).alloc (Nat.le_refl _) _
  have HH := Lib.hid (h.up hb1)
  have HB := Lib.hid (hb1.mono hB)
  have hz := hb1.size
  have hvb : w.heap.size < W.heap.size := by rw [hW]; simp
  have hv0 : W.cell? ⟨w.heap.size, 0, none⟩ = some (.int .i64 5) := by rw [hW]; exact cell_new w _ 53 0
  have hv2 : W.cell? ⟨w.heap.size, 2, none⟩ = some (.int .i64 n) := by rw [hW]; exact cell_new w _ 53 2
  have hnv : ¬ T w.heap.size := fun hx => Nat.lt_irrefl _ (h.tp.lt _ hx)
  obtain ⟨c0, c1, c2, c3⟩ := HH.out.cells
  have hlt := HH.out.lt
  have HA : Hid (Calls Try.prog 16 #[.pointer (some ⟨db, 0, none⟩), .int .i64 n] W.drew fun e w' => (∃ z, e = .returned (.int .i64 z) ∧ (z = 0 ↔ 0 ≤ n)) ∧ Tp B w' db tb room N dn l sf T ∧ Fr W.drew w' T T) := Lib.hid ((HH.out.drewN 1).tp.arm n hc.n0.1 hc.n0.2)
  have hns := HH.out.ns
  have HW := Lib.hid hW
  clear h hc hb1 hW
  go_enter Try.func21, Try.ntmps21
  go_wp2_with (rw [← HW.out])
  go_region_held3 (fun w' => w'.cell? ⟨sb, 0, none⟩ = some (.pointer (some ⟨db, 0, none⟩)) ∧ w'.cell? ⟨w.heap.size, 2, none⟩ = some (.int .i64 n))
    (first | exact ⟨(hf.cell hlt hns 0).trans c0, (hf.cell hvb hnv 2).trans hv2⟩ | (go_keep; done))
    ((go_at_call_of 16 (Value.pointer (some ⟨db, 0, Option.none⟩)); refine HA.out.mono ?_; rintro e wp1 ⟨⟨z, rfl, hzn⟩, ht, hf⟩))
  have hzz : ((z == 0) == decide (0 ≤ n)) = true := by
    by_cases h0 : 0 ≤ n
    · rw [hzn.2 h0, decide_eq_true h0]; rfl
    · rw [decide_eq_false h0, show (z == 0) = false from by simpa using fun e => h0 (hzn.1 e)]; rfl
  have HS := Lib.hid ((HH.out.tpd ht hf.drew).more (N' := N + 600) (by omega))
  have HB2 := Lib.hid (HB.out.trans (HH.out.low hf.drew (by omega)))
  clear ht hf hzn c0 c1 c2 c3 hv0 hv2
  generalize ((z == 0) == decide (0 ≤ n)) = zb at *
  subst hzz
  go_wp2_with fail
  go_ret
  exact ⟨rfl, ⟨_, _, _, _, _, _, _, _, _, HS.out⟩, HB2.out⟩
end
end Go.Proofs.Ytlplhllcohoeaaa
