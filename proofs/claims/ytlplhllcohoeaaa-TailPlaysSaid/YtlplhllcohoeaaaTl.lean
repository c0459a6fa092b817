/-
  What the tail's methods answer of no tail; Open of a disk without files, and with the power off; Append and Read over the disk's contracts.
-/
import Derived.Test.YtlplhllcohoeaaaWalkg
import Derived.Test.YtlplhllcohoeaaaRead
namespace Go.Proofs.Ytlplhllcohoeaaa
open Go.RowKit
theorem Append_nil (w : World) (A : Option Addr) (n c : Nat) : Calls Try.prog 12 #[.pointer none, .slice A n c] w fun e w' => e = .returned (.tuple #[.int .i64 0, .int .i64 1]) ∧ w = w' := by
  go_enter Try.func12, Try.ntmps12
  go_wp2_with fail
  go_ret2
  exact ⟨rfl, rfl⟩
theorem TRead_nil (w : World) (x y : Int) : Calls Try.prog 13 #[.pointer none, .int .i64 x, .int .i64 y] w fun e w' => e = .returned (.tuple #[.slice none 0 0, .int .i64 1]) ∧ w = w' := by
  go_enter Try.func13, Try.ntmps13
  go_wp2_with fail
  go_ret2
  exact ⟨rfl, rfl⟩
theorem Len_nil (w : World) : Calls Try.prog 11 #[.pointer none] w fun e w' => e = .returned (.int .i64 0) ∧ w = w' := by
  go_enter Try.func11, Try.ntmps11
  go_wp2_with fail
  go_ret
  exact ⟨rfl, rfl⟩
theorem Back_nil (w : World) (x : Int) : Calls Try.prog 18 #[.pointer none, .int .i64 x] w fun e w' => e = .returned (.int .i64 1) ∧ w = w' := by
  go_enter Try.func18, Try.ntmps18
  go_wp2_with fail
  go_ret
  exact ⟨rfl, rfl⟩
theorem Sync_nil (w : World) : Calls Try.prog 19 #[.pointer none] w fun e w' => e = .returned (.int .i64 1) ∧ w = w' := by
  go_enter Try.func19, Try.ntmps19
  go_wp2_with fail
  go_ret
  exact ⟨rfl, rfl⟩
theorem Open_nil (w : World) (x : Int) : Calls Try.prog 9 #[.pointer none, .int .i64 x] w fun e w' => e = .returned (.tuple #[.pointer none, .int .i64 1]) ∧ w = w' := by
  go_enter Try.func9, Try.ntmps9
  go_wp2_with fail
  go_ret2
  exact ⟨rfl, rfl⟩
theorem Open_bad (w : World) (a : Addr) (x : Int) (h : x < 0 ∨ 16777216 < x) : Calls Try.prog 9 #[.pointer (some a), .int .i64 x] w fun e w' => e = .returned (.tuple #[.pointer none, .int .i64 1]) ∧ w = w' := by
  by_cases h0 : x < 0
  · clear h
    go_enter Try.func9, Try.ntmps9
    go_wp2_with fail
    go_ret2
    exact ⟨rfl, rfl⟩
  · have h1 : 16777216 < x := by omega
    clear h
    go_enter Try.func9, Try.ntmps9
    go_wp2_with fail
    go_ret2
    exact ⟨rfl, rfl⟩
/-- A tail in memory. -/
def TlAt (w : World) (tb db : Nat) (n : Int) : Prop := w.heap[tb]? = some (.cells #[.pointer (some ⟨db, 0, none⟩), .int .i64 n] 68 (0, 0))
theorem TlAt.c0 {w : World} {tb db : Nat} {n : Int} (h : TlAt w tb db n) : w.cell? ⟨tb, 0, none⟩ = some (.pointer (some ⟨db, 0, none⟩)) := cell_of_row _ _ 0 _ 68 (0, 0) h
theorem TlAt.c1 {w : World} {tb db : Nat} {n : Int} (h : TlAt w tb db n) : w.cell? ⟨tb, 1, none⟩ = some (.int .i64 n) := cell_of_row _ _ 1 _ 68 (0, 0) h
theorem TlAt.f1 {w : World} {tb db : Nat} {n : Int} (h : TlAt w tb db n) : w.frozen? ⟨tb, 1, none⟩ = false := by
  unfold World.frozen?
  rw [show w.heap[tb]? = _ from h]
  simp
theorem TlAt.lt {w : World} {tb db : Nat} {n : Int} (h : TlAt w tb db n) : tb < w.heap.size := (Array.getElem?_eq_some_iff.1 h).1
theorem TlAt.set {w : World} {tb db : Nat} {n : Int} (h : TlAt w tb db n) (m : Int) : TlAt (w.setCell ⟨tb, 1, none⟩ (.int .i64 m)) tb db m := by
  unfold TlAt
  rw [heap_setCell_same _ _ _ _ _ _ h]
  rfl
theorem TlAt.up {w w' : World} {tb db : Nat} {n : Int} (h : TlAt w tb db n) (hb : Below w.heap.size w w') : TlAt w' tb db n := (hb.block _ h.lt).trans h
section
variable {db mb tb : Nat} {d : Dv} {lo : Int} {N : Nat} {S : Nat → Prop} {F : Option Nat} {Ap : Option Addr} {np cp : Nat} {ps : List (Int × Value)}
theorem Len_any (w : World) (n : Int) (h : TlAt w tb db n) : Calls Try.prog 11 #[.pointer (some ⟨tb, 0, none⟩)] w fun e w' => e = .returned (.int .i64 n) ∧ w = w' := by
  have c1 := h.c1
  clear h
  go_enter Try.func11, Try.ntmps11
  go_wp2_with fail
  go_ret
  exact ⟨rfl, rfl⟩
theorem Open_down (w : World) (h : Dk w db mb d lo N S F Ap np cp ps) (hd : d.down = true) (x : Int) (h0 : 0 ≤ x) (h1 : x ≤ 16777216) : Calls Try.prog 9 #[.pointer (some ⟨db, 0, none⟩), .int .i64 x] w fun e w' => e = .returned (.tuple #[.pointer none, .int .i64 8]) ∧ w = w' := by
  have hD := Down_any w db mb d lo N S F Ap np cp ps h
  rw [hd] at hD
  clear h hd
  go_enter Try.func9, Try.ntmps9
  go_wp2_with fail
  refine hD.mono ?_
  rintro e w1 ⟨rfl, rfl⟩
  clear hD
  go_wp2_with fail
  go_ret2
  exact ⟨rfl, rfl⟩
/-- As many bytes as there are: nothing is cut. -/
theorem Open_all (w : World) (h : Dk w db mb d lo N S F Ap np cp ps) (hd : d.down = false) (n : Nat) (hn : max 0 d.size = (n : Int)) (h1 : n ≤ 16777216) : Calls Try.prog 9 #[.pointer (some ⟨db, 0, none⟩), .int .i64 n] w fun e w' => e = .returned (.tuple #[.pointer (some ⟨w.heap.size, 0, none⟩), .int .i64 0]) ∧ TlAt w' w.heap.size db n ∧ Below w.heap.size w w' := by
  have hD := Down_any w db mb d lo N S F Ap np cp ps h
  rw [hd] at hD
  have hS := Size_any w h
  generalize d.size = z at *
  clear h hd
  go_enter Try.func9, Try.ntmps9
  go_wp2_with fail
  refine hD.mono ?_
  rintro e w1 ⟨rfl, rfl⟩
  clear hD
  go_wp2_with fail
  refine hS.mono ?_
  rintro e w1 ⟨rfl, rfl⟩
  clear hS
  go_wp2_with fail
  all_goals
    go_ret2
    exact ⟨rfl, heap_alloc_new _ _, (Below.refl _ _).alloc (Nat.le_refl _) _⟩
theorem tl_keep {w w' : World} {n : Int} (h : Only w.drew w' S) (hT : TlAt w tb db n) (hS : ¬ S tb) : w'.cell? ⟨tb, 0, none⟩ = some (.pointer (some ⟨db, 0, none⟩)) ∧ w'.cell? ⟨tb, 1, none⟩ = some (.int .i64 n) := by
  have h2 : TlAt w' tb db n := (h.rest tb hT.lt hS).trans hT
  exact ⟨h2.c0, h2.c1⟩
/-- Append, where the disk takes the bytes. -/
theorem Append_walk (w : World) (n m c : Nat) (A : Option Addr) (hT : TlAt w tb db n) (hcap : n + m ≤ 16777216) (Q : World → Prop) (hS : ¬ S tb)
    (HW : Calls Try.prog 17 #[.pointer (some ⟨db, 0, none⟩), .string tl, .int .i64 n, .slice A m c] w.drew fun e w' => e = .returned (.int .i64 0) ∧ Q w' ∧ Only w.drew w' S) :
    Calls Try.prog 12 #[.pointer (some ⟨tb, 0, none⟩), .slice A m c] w fun e w' => e = .returned (.tuple #[.int .i64 n, .int .i64 0]) ∧ ∃ w1, Q w1 ∧ Only w.drew w1 S ∧ w' = w1.setCell ⟨tb, 1, none⟩ (.int .i64 ((n + m : Nat) : Int)) ∧ TlAt w' tb db ((n + m : Nat) : Int) := by
  have c0 := hT.c0
  have c1 := hT.c1
  have htl := hT.lt
  have q1 : IntKind.i64.wrap (16777216 - (n : Int)) = 16777216 - (n : Int) := IntWalk.i64_in _ (by omega)
  have q2 : IntKind.i64.wrap ((n : Int) + m) = ((n + m : Nat) : Int) := by rw [IntWalk.i64_in _ (by omega)]; omega
  have q3 : ¬ (16777216 - (n : Int) < (m : Int)) := by omega
  have HT := Lib.hid hT
  have HSS := Lib.hid hS
  have HHW := Lib.hid HW
  clear hT HW hS
  go_enter Try.func12, Try.ntmps12
  go_wp2_with fail
  go_region_held3 (fun w' => w'.cell? ⟨tb, 0, none⟩ = some (.pointer (some ⟨db, 0, none⟩)) ∧ w'.cell? ⟨tb, 1, none⟩ = some (.int .i64 n)) (first | go_keep | exact tl_keep hp1.2 HT.out HSS.out | (trace_state; fail))
    ((go_at_call_of 17 (Value.pointer (some ⟨db, 0, Option.none⟩)); refine HHW.out.mono ?_; rintro e wp1 ⟨rfl, hp1⟩))
  have hT1 : TlAt wp1 tb db n := (hp1.2.rest tb htl HSS.out).trans HT.out
  have HT1 := Lib.hid hT1
  have HP1 := Lib.hid hp1
  have c1' := hT1.c1
  have f1' := hT1.f1
  clear hT1 hp1 c0 c1 HHW
  go_wp2_with fail
  go_ret2
  exact ⟨rfl, wp1, HP1.out.1, HP1.out.2, rfl, HT1.out.set _⟩
/-- Read, of some bytes that are there. -/
theorem TRead_walk (w : World) (n at_ m : Nat) (hT : TlAt w tb db n) (hm : 0 < m) (hin : at_ + m ≤ n) (hn : n ≤ 16777216) (v : Value → World → Prop)
    (HR : Calls Try.prog 29 #[.pointer (some ⟨db, 0, none⟩), .string tl, .int .i64 at_, .int .i64 m] w fun e w' => ∃ x, e = .returned (.tuple #[x, .int .i64 0]) ∧ v x w') :
    Calls Try.prog 13 #[.pointer (some ⟨tb, 0, none⟩), .int .i64 at_, .int .i64 m] w fun e w' => ∃ x, e = .returned (.tuple #[x, .int .i64 0]) ∧ v x w' := by
  have c0 := hT.c0
  have c1 := hT.c1
  have q1 : IntKind.i64.wrap ((n : Int) - at_) = (n : Int) - at_ := IntWalk.i64_in _ (by omega)
  have q2 : ¬ ((n : Int) - at_ < (m : Int)) := by omega
  have q3 : ¬ ((n : Int) < (at_ : Int)) := by omega
  have q4 : ¬ m = 0 := by omega
  have HHR := Lib.hid HR
  clear hT HR
  go_enter Try.func13, Try.ntmps13
  go_wp2_with fail
  refine HHR.out.mono ?_
  rintro e w1 ⟨x, rfl, hx⟩
  have HX := Lib.hid hx
  clear hx
  go_wp2_with fail
  go_ret2
  exact ⟨_, rfl, HX.out⟩
end
end Go.Proofs.Ytlplhllcohoeaaa
