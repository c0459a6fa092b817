/-
  DA: texts of one kind, one behind the other.
-/
import Derived.Test.YtblibmalommdkaaGreatED
import Derived.Test.YtblibmalommdkaaGreatJSpec
import Derived.Defers
import Derived.Recover
import Derived.Laws.Pointers
import Derived.Test.YtblibmalommdkaaGreatEB
import Derived.Test.YtblibmalommdkaaGreatKB
/-
  The deferred closure of redo.Open: entered by a panic, entered by a return.
-/
namespace Go.Proofs.YtblibmalommdkaaGreat
open Go.RowKit
set_option maxRecDepth 100000 in
set_option maxHeartbeats 2000000 in
theorem catch_idle (p q : Addr) (w : World) :
    CallsD Tryz.prog 20 #[.pointer (some p), .pointer (some q)] .returning w fun e u' w' => e = .returned (.tuple #[]) ∧ u' = .returning ∧ w' = w := by
  refine callsD_of_wpS Tryz.func20 rfl fun c₀ cs hu => ?_
  apply wpS_seq
  apply wpS_region
  simp [wpOpsS, go_sem, recoverD, hu, Tryz.ntmps20, Exit.thenS]
  refine wpS_of_wp ?_
  go_wp2_with fail
  cases c₀
  simp_all [bodyPostS, results, Tryz.results20]
def givenUp (w : World) (jb eb : Nat) : World := (((((((((((w.alloc (.cells #[] 56)).setCell ⟨jb, 0, none⟩ (.int .i64 0)).setCell ⟨jb, 1, none⟩ (.int .i64 0)).setCell ⟨jb, 2, none⟩ (.int .i64 0)).setCell ⟨jb, 3, none⟩ (.int .i64 0)).setCell ⟨jb, 4, none⟩ (.int .i64 0)).setCell ⟨jb, 5, none⟩ (.int .i64 0)).setCell ⟨jb, 6, none⟩ (.int .i64 0)).setCell ⟨jb, 7, none⟩ (.slice none 0 0)).setCell ⟨jb, 8, none⟩ (.slice none 0 0)).setCell ⟨jb, 9, none⟩ (.slice none 0 0)).setCell ⟨eb, 0, none⟩ (.int .i64 4)
theorem givenUp_below {w : World} {jb eb B : Nat} (hB : B ≤ w.heap.size) (hj : B ≤ jb) (he : B ≤ eb) : Below B w (givenUp w jb eb) := by
  unfold givenUp
  exact (((((((((((((Below.refl _ _).alloc hB _).setCell (p := ⟨jb, 0, none⟩) hj _).setCell (p := ⟨jb, 1, none⟩) hj _).setCell (p := ⟨jb, 2, none⟩) hj _).setCell (p := ⟨jb, 3, none⟩) hj _).setCell (p := ⟨jb, 4, none⟩) hj _).setCell (p := ⟨jb, 5, none⟩) hj _).setCell (p := ⟨jb, 6, none⟩) hj _).setCell (p := ⟨jb, 7, none⟩) hj _).setCell (p := ⟨jb, 8, none⟩) hj _).setCell (p := ⟨jb, 9, none⟩) hj _).setCell (p := ⟨eb, 0, none⟩) he _)
theorem givenUp_rows {w : World} {jb eb : Nat} {x0 x1 x2 x3 x4 x5 x6 x7 x8 x9 y : Value} (hj : w.heap[jb]? = some (.cells #[x0, x1, x2, x3, x4, x5, x6, x7, x8, x9] 32 (0, 0))) (he : w.heap[eb]? = some (.cells #[y] 33 (0, 0))) (hne : jb ≠ eb) :
    (givenUp w jb eb).heap[jb]? = some (.cells #[.int .i64 0, .int .i64 0, .int .i64 0, .int .i64 0, .int .i64 0, .int .i64 0, .int .i64 0, .slice none 0 0, .slice none 0 0, .slice none 0 0] 32 (0, 0)) ∧ (givenUp w jb eb).heap[eb]? = some (.cells #[.int .i64 4] 33 (0, 0)) := by
  have hb1 : Below w.heap.size w (w.alloc (.cells #[] 56)) := (Below.refl _ _).alloc (Nat.le_refl _) _
  have hj1 : (w.alloc (.cells #[] 56)).heap[jb]? = some (.cells #[x0, x1, x2, x3, x4, x5, x6, x7, x8, x9] 32 (0, 0)) := (hb1.block _ (Array.getElem?_eq_some_iff.1 hj).1).trans hj
  have he1 : (w.alloc (.cells #[] 56)).heap[eb]? = some (.cells #[y] 33 (0, 0)) := (hb1.block _ (Array.getElem?_eq_some_iff.1 he).1).trans he
  unfold givenUp
  generalize w.alloc (.cells #[] 56) = w1 at *
  have r0 := heap_setCell_same _ jb 0 _ 32 (.int .i64 0) hj1
  have r1 := heap_setCell_same _ jb 1 _ 32 (.int .i64 0) r0
  have r2 := heap_setCell_same _ jb 2 _ 32 (.int .i64 0) r1
  have r3 := heap_setCell_same _ jb 3 _ 32 (.int .i64 0) r2
  have r4 := heap_setCell_same _ jb 4 _ 32 (.int .i64 0) r3
  have r5 := heap_setCell_same _ jb 5 _ 32 (.int .i64 0) r4
  have r6 := heap_setCell_same _ jb 6 _ 32 (.int .i64 0) r5
  have r7 := heap_setCell_same _ jb 7 _ 32 (.slice none 0 0) r6
  have r8 := heap_setCell_same _ jb 8 _ 32 (.slice none 0 0) r7
  have r9 := heap_setCell_same _ jb 9 _ 32 (.slice none 0 0) r8
  refine ⟨?_, ?_⟩
  · rw [heap_setCell_other _ _ _ _ hne, r9]; simp
  · have q : (((((((((((w1).setCell ⟨jb, 0, none⟩ (.int .i64 0)).setCell ⟨jb, 1, none⟩ (.int .i64 0)).setCell ⟨jb, 2, none⟩ (.int .i64 0)).setCell ⟨jb, 3, none⟩ (.int .i64 0)).setCell ⟨jb, 4, none⟩ (.int .i64 0)).setCell ⟨jb, 5, none⟩ (.int .i64 0)).setCell ⟨jb, 6, none⟩ (.int .i64 0)).setCell ⟨jb, 7, none⟩ (.slice none 0 0)).setCell ⟨jb, 8, none⟩ (.slice none 0 0)).setCell ⟨jb, 9, none⟩ (.slice none 0 0)).heap[eb]? = some (.cells #[y] 33 (0, 0)) := by
      rw [heap_setCell_other _ _ _ _ (Ne.symm hne), heap_setCell_other _ _ _ _ (Ne.symm hne), heap_setCell_other _ _ _ _ (Ne.symm hne), heap_setCell_other _ _ _ _ (Ne.symm hne), heap_setCell_other _ _ _ _ (Ne.symm hne), heap_setCell_other _ _ _ _ (Ne.symm hne), heap_setCell_other _ _ _ _ (Ne.symm hne), heap_setCell_other _ _ _ _ (Ne.symm hne), heap_setCell_other _ _ _ _ (Ne.symm hne), heap_setCell_other _ _ _ _ (Ne.symm hne)]; exact he1
    have r := heap_setCell_same _ eb 0 _ 33 (.int .i64 4) q
    rw [r]; simp
set_option maxRecDepth 100000 in
set_option maxHeartbeats 2000000 in
theorem catch_panicking (jb eb : Nat) (w : World) (x0 x1 x2 x3 x4 x5 x6 x7 x8 x9 y : Value)
    (hj : w.heap[jb]? = some (.cells #[x0, x1, x2, x3, x4, x5, x6, x7, x8, x9] 32 (0, 0))) (he : w.heap[eb]? = some (.cells #[y] 33 (0, 0))) (hne : jb ≠ eb) :
    CallsD Tryz.prog 20 #[.pointer (some ⟨jb, 0, none⟩), .pointer (some ⟨eb, 0, none⟩)] (.panicking [{ v := .iface 56 (.agg #[]), recovered := false }]) w fun e u' w' =>
      e = .returned (.tuple #[]) ∧ u' = .panicking [{ v := .iface 56 (.agg #[]), recovered := true }] ∧ w' = givenUp w jb eb := by
  refine callsD_of_wpS Tryz.func20 rfl fun c₀ cs hu => ?_
  apply wpS_seq
  apply wpS_region
  simp [wpOpsS, go_sem, recoverD, hu, Tryz.ntmps20, Exit.thenS]
  have ha : ∀ a b v : Value, (#[a, b] ++ ((Array.replicate 15 undef).setIfInBounds 3 v).setIfInBounds 0 v) = #[a, b, v, undef, undef, v, undef, undef, undef, undef, undef, undef, undef, undef, undef, undef, undef] := fun _ _ _ => rfl
  rw [ha]
  clear ha
  have ht : ∀ w : World, (Instr.typeAssert (.iface 56 (.agg #[])) 20 56 true).run Tryz.prog w = .ok (.tuple #[.agg #[], .bool true]) w := fun _ => by kernel_rfl
  refine wpS_of_wp ?_
  have hb1 : Below w.heap.size w (w.alloc (.cells #[] 56)) := (Below.refl _ _).alloc (Nat.le_refl _) _
  have hj1 : (w.alloc (.cells #[] 56)).heap[jb]? = some (.cells #[x0, x1, x2, x3, x4, x5, x6, x7, x8, x9] 32 (0, 0)) := (hb1.block _ (Array.getElem?_eq_some_iff.1 hj).1).trans hj
  have he1 : (w.alloc (.cells #[] 56)).heap[eb]? = some (.cells #[y] 33 (0, 0)) := (hb1.block _ (Array.getElem?_eq_some_iff.1 he).1).trans he
  have HJ := Lib.hid hj1; have HE := Lib.hid he1
  have e0 : (w.alloc (.cells #[] 56)).cell? ⟨jb, 0, none⟩ = some x0 := cell_of_row _ _ 0 _ 32 (0, 0) hj1
  have e1 : (w.alloc (.cells #[] 56)).cell? ⟨jb, 1, none⟩ = some x1 := cell_of_row _ _ 1 _ 32 (0, 0) hj1
  have e2 : (w.alloc (.cells #[] 56)).cell? ⟨jb, 2, none⟩ = some x2 := cell_of_row _ _ 2 _ 32 (0, 0) hj1
  have e3 : (w.alloc (.cells #[] 56)).cell? ⟨jb, 3, none⟩ = some x3 := cell_of_row _ _ 3 _ 32 (0, 0) hj1
  have e4 : (w.alloc (.cells #[] 56)).cell? ⟨jb, 4, none⟩ = some x4 := cell_of_row _ _ 4 _ 32 (0, 0) hj1
  have e5 : (w.alloc (.cells #[] 56)).cell? ⟨jb, 5, none⟩ = some x5 := cell_of_row _ _ 5 _ 32 (0, 0) hj1
  have e6 : (w.alloc (.cells #[] 56)).cell? ⟨jb, 6, none⟩ = some x6 := cell_of_row _ _ 6 _ 32 (0, 0) hj1
  have e7 : (w.alloc (.cells #[] 56)).cell? ⟨jb, 7, none⟩ = some x7 := cell_of_row _ _ 7 _ 32 (0, 0) hj1
  have e8 : (w.alloc (.cells #[] 56)).cell? ⟨jb, 8, none⟩ = some x8 := cell_of_row _ _ 8 _ 32 (0, 0) hj1
  have e9 : (w.alloc (.cells #[] 56)).cell? ⟨jb, 9, none⟩ = some x9 := cell_of_row _ _ 9 _ 32 (0, 0) hj1
  have f0 : (w.alloc (.cells #[] 56)).frozen? ⟨jb, 0, none⟩ = false := frozen_of_row _ _ 0 _ _ hj1
  have f1 : (w.alloc (.cells #[] 56)).frozen? ⟨jb, 1, none⟩ = false := frozen_of_row _ _ 1 _ _ hj1
  have f2 : (w.alloc (.cells #[] 56)).frozen? ⟨jb, 2, none⟩ = false := frozen_of_row _ _ 2 _ _ hj1
  have f3 : (w.alloc (.cells #[] 56)).frozen? ⟨jb, 3, none⟩ = false := frozen_of_row _ _ 3 _ _ hj1
  have f4 : (w.alloc (.cells #[] 56)).frozen? ⟨jb, 4, none⟩ = false := frozen_of_row _ _ 4 _ _ hj1
  have f5 : (w.alloc (.cells #[] 56)).frozen? ⟨jb, 5, none⟩ = false := frozen_of_row _ _ 5 _ _ hj1
  have f6 : (w.alloc (.cells #[] 56)).frozen? ⟨jb, 6, none⟩ = false := frozen_of_row _ _ 6 _ _ hj1
  have f7 : (w.alloc (.cells #[] 56)).frozen? ⟨jb, 7, none⟩ = false := frozen_of_row _ _ 7 _ _ hj1
  have f8 : (w.alloc (.cells #[] 56)).frozen? ⟨jb, 8, none⟩ = false := frozen_of_row _ _ 8 _ _ hj1
  have f9 : (w.alloc (.cells #[] 56)).frozen? ⟨jb, 9, none⟩ = false := frozen_of_row _ _ 9 _ _ hj1
  have g0 : (w.alloc (.cells #[] 56)).cell? ⟨eb, 0, none⟩ = some y := cell_of_row _ _ 0 _ 33 (0, 0) he1
  have g1 : (w.alloc (.cells #[] 56)).frozen? ⟨eb, 0, none⟩ = false := frozen_of_row _ _ 0 _ _ he1
  go_wp2_with fail
  cases c₀
  simp_all [bodyPostS, results, Tryz.results20, givenUp]
end Go.Proofs.YtblibmalommdkaaGreat

/-
  The reader of bytes where none are asked, and over no bytes at all.
-/
namespace Go.Proofs.YtblibmalommdkaaGreat.Re
open Go.RowKit
set_option maxRecDepth 100000 in
theorem next_nil (w : World) (rb n c at_ b off : Nat) (l : List Int) (h : Rdr w rb (some ⟨b, off, none⟩) n c at_ l) (hn : n ≤ 1073741824) (hc : c ≤ 9223372036854775807) (hat : at_ ≤ n) :
    Calls Tryz.prog 41 #[.pointer (some ⟨rb, 0, none⟩), .int .i64 0] w fun e w' => (∃ b o c', e = .returned (.tuple #[.slice (some ⟨b, o, none⟩) 0 c', .int .i64 0])) ∧ ∃ k, w' = w.drewN k := by
  have c0 := h.c0
  have c1 := h.c1
  have hcap := h.cap
  clear h
  by_cases hca : c = at_
  · subst hca
    go_enter Tryz.func41, Tryz.ntmps41
    go_wp2_with fail
    go_quiet (fail)
    go_wp2_with fail
    go_quiet (fail)
    go_wp2_with fail
    go_ret2
    exact ⟨⟨_, _, _, rfl⟩, _, drewN_drewN _ _ _⟩
  · go_enter Tryz.func41, Tryz.ntmps41
    go_wp2_with fail
    go_quiet (fail)
    go_wp2_with fail
    go_quiet (fail)
    go_wp2_with fail
    go_ret2
    exact ⟨⟨_, _, _, rfl⟩, _, drewN_drewN _ _ _⟩
set_option maxRecDepth 100000 in
theorem Take_zero (w : World) (rb n c at_ b off : Nat) (l : List Int) (h : Rdr w rb (some ⟨b, off, none⟩) n c at_ l) (hn : n ≤ 1073741824) (hc : c ≤ 9223372036854775807) (hat : at_ ≤ n) :
    Calls Tryz.prog 23 #[.pointer (some ⟨rb, 0, none⟩), .int .i64 0] w fun e w' => (∃ A' c', e = .returned (.tuple #[.slice A' 0 c', .int .i64 0]) ∧ OwnB w' w.heap.size A' 0 c' []) ∧ w.grownBy w' (some rb) := by
  obtain ⟨i0, hi, hz0, hz1, hz2⟩ := info_parts info5
  have H := Lib.hid h
  clear h
  go_enter Tryz.func23, Tryz.ntmps23
  go_wp2_with fail
  refine (next_nil _ rb n c at_ b off l H.out hn hc hat).mono ?_
  rintro e w1 ⟨⟨b1, o1, c1, rfl⟩, k, rfl⟩
  have d1 := (H.out.drewN k).c1
  have df := (H.out.drewN k).f1
  have HG : Hid (w.grownBy ((w.drewN k).setCell ⟨rb, 1, none⟩ (.int .i64 (at_ : Int))) (some rb)) := Lib.hid (by
    have hg := grown_setCell (w.drewN k) ⟨rb, 1, none⟩ (.int .i64 (at_ : Int))
    exact ⟨hg.os, hg.tape, hg.output, hg.size, hg.block⟩)
  have hsz : (((w.drewN k).setCell ⟨rb, 1, none⟩ (.int .i64 (at_ : Int))).heap.size) = w.heap.size := by simp [World.drewN]
  have HSZ := Lib.hid hsz
  clear hsz
  go_upto_region 5 with (fail)
  generalize (w.drewN k).setCell ⟨rb, 1, none⟩ (.int .i64 (at_ : Int)) = w2 at *
  have hlit : OwnB (w2.alloc (.cells #[] 5)) w.heap.size (some ⟨w2.heap.size, 0, none⟩) 0 0 [] := ⟨rfl, World.ownsRow_lit (base := w.heap.size) (e := 5) (size := 1) w2 #[] 0 (by rw [HSZ.out]; exact Nat.le_refl _) (by decide) rfl⟩
  have HLI := Lib.hid hlit
  have hws : w.heap.size ≤ (w2.alloc (.cells #[] 5)).heap.size := by simp [HSZ.out]
  have HWS := Lib.hid hws
  clear hlit hws d1 df
  have hg2 : w2.grownBy (w2.alloc (.cells #[] 5)) none := grown_alloc w2 _
  have HG3 : Hid (w.grownBy (w2.alloc (.cells #[] 5)) (some rb)) := Lib.hid (grown_trans HG.out hg2 (fun b h => by cases h))
  clear hg2
  go_wp2_with fail
  go_ret2
  exact ⟨⟨_, 0, rfl, HLI.out⟩, HG3.out⟩
set_option maxRecDepth 100000 in
/-- A reader over no bytes. -/
theorem On_nil (w : World) (A : Option Addr) (c : Nat) (hno : A = none ∧ c = 0 ∨ ∃ b off, A = some ⟨b, off, none⟩) :
    Calls Tryz.prog 21 #[.slice A 0 c] w fun e w' => (∃ rb A' c', e = .returned (.pointer (some ⟨rb, 0, none⟩)) ∧ Rdr w' rb A' 0 c' 0 [] ∧ c' ≤ 9223372036854775807 ∧ w.heap.size ≤ rb ∧ ∀ x, A' = some x → w.heap.size ≤ x.block) ∧ Below w.heap.size w w' := by
  have hb3 : Below w.heap.size w (w.alloc (.cells #[] 5)) := (Below.refl _ _).alloc (Nat.le_refl _) _
  have HB3 := Lib.hid hb3
  have hsz := hb3.size
  have HX : Hid (∀ (cs : Array Value) (e : TypeId), cs[0]? = some (.slice (some ⟨w.heap.size, 0, none⟩) 0 0) → cs[1]? = some (.int .i64 ((0 : Nat) : Int)) → Rdr ((w.alloc (.cells #[] 5)).alloc (.cells cs e)) (w.alloc (.cells #[] 5)).heap.size (some ⟨w.heap.size, 0, none⟩) 0 0 0 []) := Lib.hid (fun cs e h0 h1 => by
    refine ⟨(cell_new _ _ _ _).trans h0, (cell_new _ _ _ _).trans h1, ?_, RdB.nil _ _ _, rfl, Nat.le_refl _, by simp⟩
    have hh := heap_alloc_new (w.alloc (.cells #[] 5)) (.cells cs e)
    unfold World.frozen?
    rw [hh]; simp)
  have hs1 : (w.alloc (.cells #[] 5)).heap.size = w.heap.size + 1 := by simp
  rw [hs1] at HX hsz
  clear hb3
  rcases hno with ⟨rfl, rfl⟩ | ⟨b, off, rfl⟩
  · go_enter Tryz.func21, Tryz.ntmps21
    go_wp2_with fail
    go_ret
    exact ⟨⟨w.heap.size + 1, _, 0, rfl, HX.out _ _ rfl rfl, by omega, by omega, fun x hx => by injection hx with hx; subst hx; exact Nat.le_refl _⟩, HB3.out.alloc (by simp) _⟩
  · go_enter Tryz.func21, Tryz.ntmps21
    go_wp2_with fail
    go_ret
    exact ⟨⟨w.heap.size + 1, _, 0, rfl, HX.out _ _ rfl rfl, by omega, by omega, fun x hx => by injection hx with hx; subst hx; exact Nat.le_refl _⟩, HB3.out.alloc (by simp) _⟩
set_option maxRecDepth 100000 in
theorem On_far (w : World) (b off n c : Nat) (l : List Int) (hl : l.length = n) (hr : RdB w w.heap.size (some ⟨b, off, none⟩) l) (h1 : 1 ≤ n) (hn : n ≤ 1073741824) :
    Calls Tryz.prog 21 #[.slice (some ⟨b, off, none⟩) n c] w fun e w' => (∃ rb A' c', e = .returned (.pointer (some ⟨rb, 0, none⟩)) ∧ Rdr w' rb A' n c' 0 l ∧ c' ≤ 9223372036854775807 ∧ w.heap.size ≤ rb ∧ ∀ x, A' = some x → w.heap.size ≤ x.block) ∧ Below w.heap.size w w' := by
  obtain ⟨i0, hi, hz0, hz1, hz2⟩ := info_parts info5
  have H := Lib.hid hl
  have HR := Lib.hid hr
  have hlit : OwnB (w.alloc (.cells #[] 5)) w.heap.size (some ⟨w.heap.size, 0, none⟩) 0 0 [] := ⟨rfl, World.ownsRow_lit (base := w.heap.size) (e := 5) (size := 1) w #[] 0 (Nat.le_refl _) (by decide) rfl⟩
  have HLI := Lib.hid hlit
  clear hl hr hlit
  go_enter Tryz.func21, Tryz.ntmps21
  go_wp2_with (at_builtin; refine wpList_append_own _ rfl _ _ 22 rfl w.heap.size 5 i0 _ 1 1 Tryz.underlying22 hi hz0 hz1 hz2 rfl (by decide) _ 0 _ rfl HLI.out.2 ⟨b, off, none⟩ n c (bcells l) rfl (by rw [bcells, List.length_map, H.out, Nat.mul_one]) (RdB.cells (HR.out.alloc (Nat.le_refl _) _)) (bcells_one _) (by unfold maxLen; omega) (by omega) (by simp) ?_)
  intro v' w3 hown' hgrow _
  obtain ⟨A3, c3, hv⟩ := ext_of_ownB hown'
  rw [hv] at hown'
  have hO3 : OwnB w3 w.heap.size A3 n c3 l := ⟨H.out, by simpa [bcells] using hown'⟩
  obtain ⟨g3, rfl, hbg, hlt3, hcc, hcm⟩ := hO3.form (by omega)
  have HO3 := Lib.hid hO3
  have hg2 : w.grownBy w3 none := grown_trans (grown_alloc w _) hgrow (fun b h => by simp [Value.ownBlock] at h; right; omega)
  have hb3 : Below w.heap.size w w3 := ⟨hg2.os, hg2.tape, hg2.output, hg2.size, fun k hk => hg2.block k hk (by simp)⟩
  have HB3 := Lib.hid hb3
  have hsz := hb3.size
  have HX : Hid (∀ (cs : Array Value) (e : TypeId), cs[0]? = some (.slice (some ⟨g3, 0, none⟩) n c3) → cs[1]? = some (.int .i64 ((0 : Nat) : Int)) → Rdr (w3.alloc (.cells cs e)) w3.heap.size (some ⟨g3, 0, none⟩) n c3 0 l) := Lib.hid (fun cs e h0 h1 => by
    refine ⟨(cell_new _ _ _ _).trans h0, (cell_new _ _ _ _).trans h1, ?_, ?_, H.out, hcc, by simp⟩
    · have hh := heap_alloc_new w3 (.cells cs e)
      unfold World.frozen?
      rw [hh]; simp
    · exact HO3.out.rd.alloc (Nat.le_refl _) _)
  unfold maxLen at hcm
  rw [hv]
  clear hown' hgrow hv hO3 hg2 hb3
  go_wp2_with fail
  go_ret
  exact ⟨⟨w3.heap.size, _, c3, rfl, HX.out _ _ rfl rfl, by omega, hsz, fun x hx => by injection hx with hx; subst hx; exact hbg⟩, HB3.out.alloc hsz _⟩
theorem rdr_far {w : World} {rb n c a : Nat} {A : Option Addr} {l : List Int} (h : Rdr w rb A n c a l) (p : Addr) (v : Value) (hp : p.block ≠ rb) (hA : ∀ x, A = some x → x.block ≠ p.block) : Rdr (w.setCell p v) rb A n c a l := by
  have key : ∀ q : Addr, q.block ≠ p.block → (w.setCell p v).cell? q = w.cell? q := fun q hq => World.cell?_setCell_other _ _ _ _ (by intro e; rw [← e] at hq; exact hq rfl)
  refine ⟨(key _ (Ne.symm hp)).trans h.c0, (key _ (Ne.symm hp)).trans h.c1, (World.frozen?_setCell _ _ _ _).trans h.f1, fun k s hs => ?_, h.len, h.cap, by simpa using h.lt⟩
  obtain ⟨b, off, e, hlt, hc⟩ := h.rd k s hs
  exact ⟨b, off, e, hlt, (key ⟨b, off + k, none⟩ (hA ⟨b, off, none⟩ e)).trans hc⟩
/-- All that is left. -/
theorem Take_rest (w : World) (rb n c at_ : Nat) (A : Option Addr) (l : List Int) (h : Rdr w rb A n c at_ l) (hn : n ≤ 1073741824) (hc : c ≤ 9223372036854775807) (hat : at_ ≤ n) (h1 : 1 ≤ n) :
    Calls Tryz.prog 23 #[.pointer (some ⟨rb, 0, none⟩), .int .i64 ((n - at_ : Nat) : Int)] w fun e w' => (∃ TA tc, e = .returned (.tuple #[.slice TA (n - at_) tc, .int .i64 0]) ∧ OwnB w' w.heap.size TA (n - at_) tc (l.drop at_)) ∧ w.grownBy w' (some rb) := by
  by_cases he : at_ = n
  · obtain ⟨s, hs⟩ := get_some l 0 (by rw [h.len]; omega)
    obtain ⟨b, off, rfl, _, _⟩ := h.rd 0 s hs
    have hd : l.drop at_ = [] := List.drop_eq_nil_of_le (by rw [h.len]; omega)
    rw [hd, he, Nat.sub_self]
    rw [he] at h
    exact Take_zero w rb n c n b off l h hn hc (Nat.le_refl _)
  · have ht : (l.drop at_).take (n - at_) = l.drop at_ := List.take_of_length_le (by rw [List.length_drop, h.len]; exact Nat.le_refl _)
    refine (Take_any w rb n c at_ A l h hn hc (n - at_) (by omega) (by omega)).mono ?_
    rintro e w' ⟨⟨g, c', rfl, hO⟩, _, hg⟩
    rw [ht] at hO
    exact ⟨⟨_, _, rfl, hO⟩, hg⟩
theorem Left_rest (w : World) (rb n c at_ : Nat) (A : Option Addr) (l : List Int) (h : Rdr w rb A n c at_ l) (hn : n ≤ 1073741824) (hat : at_ ≤ n) :
    Calls Tryz.prog 26 #[.pointer (some ⟨rb, 0, none⟩)] w fun e w' => e = .returned (.int .i64 ((n - at_ : Nat) : Int)) ∧ ∃ k, w' = w.drewN k := by
  rw [Int.ofNat_sub hat]
  exact Left_any w rb n c at_ A l h hn hat
end Go.Proofs.YtblibmalommdkaaGreat.Re

/-
  A journal that is being opened, in memory: its box, the error's, the reader's.
-/
namespace Go.Proofs.YtblibmalommdkaaGreat
open Go.RowKit
/-- The journal to be, the error, the reader's box; nothing else of what was there has turned. -/
structure JO (w0 w : World) (gb rb : Nat) (J : Array Value) (E : Value) : Prop where
  low : Below w0.heap.size w0 w
  j : w.heap[w0.heap.size]? = some (.cells J 32 (0, 0))
  e : w.heap[w0.heap.size + 1]? = some (.cells #[E] 33 (0, 0))
  g : w.heap[gb]? = some (.cells #[.pointer (some ⟨rb, 0, none⟩)] 61 (0, 0))
  rl : w0.heap.size + 2 ≤ rb
  rg : rb < gb
theorem JO.gs {w0 w : World} {gb rb : Nat} {J : Array Value} {E : Value} (h : JO w0 w gb rb J E) : gb < w.heap.size := (Array.getElem?_eq_some_iff.1 h.g).1
theorem JO.up {w0 w w' : World} {gb rb : Nat} {J : Array Value} {E : Value} (h : JO w0 w gb rb J E) (hg : w.grownBy w' (some rb)) : JO w0 w' gb rb J E := by
  have hs := h.gs
  have h1 := h.rl; have h2 := h.rg
  have key : ∀ b, b ≤ gb → b ≠ rb → w'.heap[b]? = w.heap[b]? := fun b hb hne => hg.block b (by omega) (fun e => hne (by injection e with e))
  exact ⟨⟨hg.os.trans h.low.os, hg.tape.trans h.low.tape, hg.output.trans h.low.output, Nat.le_trans h.low.size hg.size, fun k hk => (key k (by omega) (by omega)).trans (h.low.block k hk)⟩,
    (key _ (by omega) (by omega)).trans h.j, (key _ (by omega) (by omega)).trans h.e, (key gb (Nat.le_refl _) (by omega)).trans h.g, h1, h2⟩
theorem JO.below {w0 w w' : World} {gb rb : Nat} {J : Array Value} {E : Value} (h : JO w0 w gb rb J E) (hb : Below w.heap.size w w') : JO w0 w' gb rb J E := h.up (Re.grown_below hb _)
theorem JO.setJ {w0 w : World} {gb rb : Nat} {J : Array Value} {E : Value} (h : JO w0 w gb rb J E) (i : Nat) (v : Value) : JO w0 (w.setCell ⟨w0.heap.size, i, none⟩ v) gb rb (J.setIfInBounds i v) E := by
  have h1 := h.rl; have h2 := h.rg
  exact ⟨h.low.setCell (Nat.le_refl _) _, heap_setCell_same _ _ _ _ _ _ h.j, (heap_setCell_other _ _ _ _ (by simp only; omega)).trans h.e, (heap_setCell_other _ _ _ _ (by simp only; omega)).trans h.g, h1, h2⟩
theorem JO.setE {w0 w : World} {gb rb : Nat} {J : Array Value} {E : Value} (h : JO w0 w gb rb J E) (v : Value) : JO w0 (w.setCell ⟨w0.heap.size + 1, 0, none⟩ v) gb rb J v := by
  have h1 := h.rl; have h2 := h.rg
  exact ⟨h.low.setCell (by simp only; omega) _, (heap_setCell_other _ _ _ _ (by simp only; omega)).trans h.j, heap_setCell_same _ _ 0 _ _ _ h.e, (heap_setCell_other _ _ _ _ (by simp only; omega)).trans h.g, h1, h2⟩
theorem JO.box {w0 w : World} {gb rb : Nat} {J : Array Value} {E : Value} (h : JO w0 w gb rb J E) : w.cell? ⟨gb, 0, none⟩ = some (.pointer (some ⟨rb, 0, none⟩)) := cell_of_row _ _ 0 _ 61 (0, 0) h.g
theorem JO.e0 {w0 w : World} {gb rb : Nat} {J : Array Value} {E : Value} (h : JO w0 w gb rb J E) : w.cell? ⟨w0.heap.size + 1, 0, none⟩ = some E := cell_of_row _ _ 0 _ 33 (0, 0) h.e
theorem JO.ef {w0 w : World} {gb rb : Nat} {J : Array Value} {E : Value} (h : JO w0 w gb rb J E) : w.frozen? ⟨w0.heap.size + 1, 0, none⟩ = false := frozen_of_row _ _ 0 _ _ h.e
theorem JO.jf {w0 w : World} {gb rb : Nat} {J : Array Value} {E : Value} (h : JO w0 w gb rb J E) (i : Nat) : w.frozen? ⟨w0.heap.size, i, none⟩ = false := frozen_of_row _ _ i _ _ h.j
theorem JO.jc {w0 w : World} {gb rb : Nat} {J : Array Value} {E : Value} (h : JO w0 w gb rb J E) {i : Nat} {v : Value} (hv : J[i]? = some v) : w.cell? ⟨w0.heap.size, i, none⟩ = some v := (cell_of_row _ _ i _ 32 (0, 0) h.j).trans hv
/-- Of a postcondition what is asked where nothing leaves early. -/
def onlyN (Q : Exit → Act → World → Prop) : Exit → Act → World → Prop
  | .normal, a, w => Q .normal a w
  | _, _, _ => False
theorem wp_onlyN {P : Program} {c : Code} {Q : Exit → Act → World → Prop} {a : Act} {w : World} (h : c.wp P (onlyN Q) a w) : c.wp P Q a w :=
  Code.wp_mono (fun e a w h => by cases e <;> first | exact h | exact h.elim) h
/-- All ten cells put. -/
theorem JO.all {w w4 : World} {gb rb : Nat} {x0 x1 x2 x3 x4 x5 x6 x7 x8 x9 E : Value} (h : JO w w4 gb rb #[x0, x1, x2, x3, x4, x5, x6, x7, x8, x9] E) (v0 v1 v2 v3 v4 v5 v6 v7 v8 v9 : Value) :
    JO w ((((((((((w4.setCell ⟨w.heap.size, 0, none⟩ v0).setCell ⟨w.heap.size, 1, none⟩ v1).setCell ⟨w.heap.size, 2, none⟩ v2).setCell ⟨w.heap.size, 3, none⟩ v3).setCell ⟨w.heap.size, 4, none⟩ v4).setCell ⟨w.heap.size, 5, none⟩ v5).setCell ⟨w.heap.size, 6, none⟩ v6).setCell ⟨w.heap.size, 7, none⟩ v7).setCell ⟨w.heap.size, 8, none⟩ v8).setCell ⟨w.heap.size, 9, none⟩ v9) gb rb #[v0, v1, v2, v3, v4, v5, v6, v7, v8, v9] E := by
  have h0 : JO w _ gb rb #[v0, x1, x2, x3, x4, x5, x6, x7, x8, x9] E := h.setJ 0 v0
  have h1 : JO w _ gb rb #[v0, v1, x2, x3, x4, x5, x6, x7, x8, x9] E := h0.setJ 1 v1
  have h2 : JO w _ gb rb #[v0, v1, v2, x3, x4, x5, x6, x7, x8, x9] E := h1.setJ 2 v2
  have h3 : JO w _ gb rb #[v0, v1, v2, v3, x4, x5, x6, x7, x8, x9] E := h2.setJ 3 v3
  have h4 : JO w _ gb rb #[v0, v1, v2, v3, v4, x5, x6, x7, x8, x9] E := h3.setJ 4 v4
  have h5 : JO w _ gb rb #[v0, v1, v2, v3, v4, v5, x6, x7, x8, x9] E := h4.setJ 5 v5
  have h6 : JO w _ gb rb #[v0, v1, v2, v3, v4, v5, v6, x7, x8, x9] E := h5.setJ 6 v6
  have h7 : JO w _ gb rb #[v0, v1, v2, v3, v4, v5, v6, v7, x8, x9] E := h6.setJ 7 v7
  have h8 : JO w _ gb rb #[v0, v1, v2, v3, v4, v5, v6, v7, v8, x9] E := h7.setJ 8 v8
  have h9 : JO w _ gb rb #[v0, v1, v2, v3, v4, v5, v6, v7, v8, v9] E := h8.setJ 9 v9
  exact h9
/-- The superblock put. -/
theorem JO.sup {w w4 : World} {gb rb : Nat} {x0 x1 x2 x3 x4 x5 x6 x7 x8 x9 E : Value} (h : JO w w4 gb rb #[x0, x1, x2, x3, x4, x5, x6, x7, x8, x9] E) (v1 v2 v3 v4 v5 : Value) :
    JO w (((((w4.setCell ⟨w.heap.size, 1, none⟩ v1).setCell ⟨w.heap.size, 2, none⟩ v2).setCell ⟨w.heap.size, 3, none⟩ v3).setCell ⟨w.heap.size, 4, none⟩ v4).setCell ⟨w.heap.size, 5, none⟩ v5) gb rb #[x0, v1, v2, v3, v4, v5, x6, x7, x8, x9] E := by
  have h0 : JO w _ gb rb #[x0, v1, x2, x3, x4, x5, x6, x7, x8, x9] E := h.setJ 1 v1
  have h1 : JO w _ gb rb #[x0, v1, v2, x3, x4, x5, x6, x7, x8, x9] E := h0.setJ 2 v2
  have h2 : JO w _ gb rb #[x0, v1, v2, v3, x4, x5, x6, x7, x8, x9] E := h1.setJ 3 v3
  have h3 : JO w _ gb rb #[x0, v1, v2, v3, v4, x5, x6, x7, x8, x9] E := h2.setJ 4 v4
  have h4 : JO w _ gb rb #[x0, v1, v2, v3, v4, v5, x6, x7, x8, x9] E := h3.setJ 5 v5
  exact h4
/-- The plan put. -/
theorem JO.pln {w w4 : World} {gb rb : Nat} {x0 x1 x2 x3 x4 x5 x6 x7 x8 x9 E : Value} (h : JO w w4 gb rb #[x0, x1, x2, x3, x4, x5, x6, x7, x8, x9] E) (v6 v7 v8 : Value) :
    JO w (((w4.setCell ⟨w.heap.size, 6, none⟩ v6).setCell ⟨w.heap.size, 7, none⟩ v7).setCell ⟨w.heap.size, 8, none⟩ v8) gb rb #[x0, x1, x2, x3, x4, x5, v6, v7, v8, x9] E := by
  have h0 : JO w _ gb rb #[x0, x1, x2, x3, x4, x5, v6, x7, x8, x9] E := h.setJ 6 v6
  have h1 : JO w _ gb rb #[x0, x1, x2, x3, x4, x5, v6, v7, x8, x9] E := h0.setJ 7 v7
  have h2 : JO w _ gb rb #[x0, x1, x2, x3, x4, x5, v6, v7, v8, x9] E := h1.setJ 8 v8
  exact h2
set_option maxRecDepth 100000 in
/-- redo.Open where a callee gives up: what its deferred function leaves. -/
theorem open_panic {w w4 : World} {gb rb : Nat} {x0 x1 x2 x3 x4 x5 x6 x7 x8 x9 E : Value} (h : JO w w4 gb rb #[x0, x1, x2, x3, x4, x5, x6, x7, x8, x9] E) {R : Ending → World → Prop} {tmps : Array Value}
    (h2 : tmps[2]? = some (.pointer (some ⟨w.heap.size, 0, none⟩))) (h3 : tmps[3]? = some (.pointer (some ⟨w.heap.size + 1, 0, none⟩)))
    (hR : ∀ w5, Below w.heap.size w w5 → R (.returned (.tuple #[.agg jn0.cells, .int .i64 4])) w5) :
    bodyPostD Tryz.prog Tryz.f7 R (Exit.panic [{ v := .iface 56 (.agg #[]), recovered := false }]) { tmps := tmps, defers := [{ target := .fn (.func 20) #[.pointer (some ⟨w.heap.size, 0, none⟩), .pointer (some ⟨w.heap.size + 1, 0, none⟩)], args := #[] }] } w4 := by
  have h1 := h.rl; have hg := h.rg; have hs := h.gs
  show Leaves _ _ _ _ _ _ _
  refine leaves_cons (f := 20) (args := #[.pointer (some ⟨w.heap.size, 0, none⟩), .pointer (some ⟨w.heap.size + 1, 0, none⟩)]) (by simp) (by simp [go_sem]) ?_
  refine (catch_panicking w.heap.size (w.heap.size + 1) w4 _ _ _ _ _ _ _ _ _ _ _ h.j h.e (by omega)).mono ?_
  rintro e u' w5 ⟨rfl, rfl, rfl⟩
  obtain ⟨r0, r1⟩ := givenUp_rows h.j h.e (by omega : w.heap.size ≠ w.heap.size + 1)
  have hb := h.low.trans (givenUp_below (w := w4) (jb := w.heap.size) (eb := w.heap.size + 1) (B := w.heap.size) h.low.size (Nat.le_refl _) (by omega))
  have hr := hR _ hb
  generalize givenUp w4 w.heap.size (w.heap.size + 1) = w5 at *
  have c0 : w5.cell? ⟨w.heap.size, 0, none⟩ = some (.int .i64 0) := cell_of_row _ _ 0 _ 32 (0, 0) r0
  have c1 : w5.cell? ⟨w.heap.size, 1, none⟩ = some (.int .i64 0) := cell_of_row _ _ 1 _ 32 (0, 0) r0
  have c2 : w5.cell? ⟨w.heap.size, 2, none⟩ = some (.int .i64 0) := cell_of_row _ _ 2 _ 32 (0, 0) r0
  have c3 : w5.cell? ⟨w.heap.size, 3, none⟩ = some (.int .i64 0) := cell_of_row _ _ 3 _ 32 (0, 0) r0
  have c4 : w5.cell? ⟨w.heap.size, 4, none⟩ = some (.int .i64 0) := cell_of_row _ _ 4 _ 32 (0, 0) r0
  have c5 : w5.cell? ⟨w.heap.size, 5, none⟩ = some (.int .i64 0) := cell_of_row _ _ 5 _ 32 (0, 0) r0
  have c6 : w5.cell? ⟨w.heap.size, 6, none⟩ = some (.int .i64 0) := cell_of_row _ _ 6 _ 32 (0, 0) r0
  have c7 : w5.cell? ⟨w.heap.size, 7, none⟩ = some (.slice none 0 0) := cell_of_row _ _ 7 _ 32 (0, 0) r0
  have c8 : w5.cell? ⟨w.heap.size, 8, none⟩ = some (.slice none 0 0) := cell_of_row _ _ 8 _ 32 (0, 0) r0
  have c9 : w5.cell? ⟨w.heap.size, 9, none⟩ = some (.slice none 0 0) := cell_of_row _ _ 9 _ 32 (0, 0) r0
  have d0 : w5.cell? ⟨w.heap.size + 1, 0, none⟩ = some (.int .i64 4) := cell_of_row _ _ 0 _ 33 (0, 0) r1
  show Leaves Tryz.prog Tryz.f7 tmps R [] .returning w5
  refine ⟨_, ?_, hr⟩
  simp [results, Tryz.results7, go_sem, h2, h3, c0, c1, c2, c3, c4, c5, c6, c7, c8, c9, d0]
  rfl
set_option maxRecDepth 100000 in
/-- redo.Open where it returns. -/
theorem open_ret {w w4 : World} {gb rb : Nat} {x0 x1 x2 x3 x4 x5 x6 x7 x8 x9 E : Value} (h : JO w w4 gb rb #[x0, x1, x2, x3, x4, x5, x6, x7, x8, x9] E) {R : Ending → World → Prop} {tmps : Array Value}
    (h2 : tmps[2]? = some (.pointer (some ⟨w.heap.size, 0, none⟩))) (h3 : tmps[3]? = some (.pointer (some ⟨w.heap.size + 1, 0, none⟩)))
    (hR : R (.returned (.tuple #[.agg #[x0, x1, x2, x3, x4, x5, x6, x7, x8, x9], E])) w4) :
    bodyPostD Tryz.prog Tryz.f7 R Exit.ret { tmps := tmps, defers := [{ target := .fn (.func 20) #[.pointer (some ⟨w.heap.size, 0, none⟩), .pointer (some ⟨w.heap.size + 1, 0, none⟩)], args := #[] }] } w4 := by
  show Leaves _ _ _ _ _ _ _
  refine leaves_cons (f := 20) (args := #[.pointer (some ⟨w.heap.size, 0, none⟩), .pointer (some ⟨w.heap.size + 1, 0, none⟩)]) (by simp) (by simp [go_sem]) ?_
  refine (catch_idle _ _ w4).mono ?_
  rintro e u' w5 ⟨rfl, rfl, rfl⟩
  have c0 : w5.cell? ⟨w.heap.size, 0, none⟩ = some x0 := cell_of_row _ _ 0 _ 32 (0, 0) h.j
  have c1 : w5.cell? ⟨w.heap.size, 1, none⟩ = some x1 := cell_of_row _ _ 1 _ 32 (0, 0) h.j
  have c2 : w5.cell? ⟨w.heap.size, 2, none⟩ = some x2 := cell_of_row _ _ 2 _ 32 (0, 0) h.j
  have c3 : w5.cell? ⟨w.heap.size, 3, none⟩ = some x3 := cell_of_row _ _ 3 _ 32 (0, 0) h.j
  have c4 : w5.cell? ⟨w.heap.size, 4, none⟩ = some x4 := cell_of_row _ _ 4 _ 32 (0, 0) h.j
  have c5 : w5.cell? ⟨w.heap.size, 5, none⟩ = some x5 := cell_of_row _ _ 5 _ 32 (0, 0) h.j
  have c6 : w5.cell? ⟨w.heap.size, 6, none⟩ = some x6 := cell_of_row _ _ 6 _ 32 (0, 0) h.j
  have c7 : w5.cell? ⟨w.heap.size, 7, none⟩ = some x7 := cell_of_row _ _ 7 _ 32 (0, 0) h.j
  have c8 : w5.cell? ⟨w.heap.size, 8, none⟩ = some x8 := cell_of_row _ _ 8 _ 32 (0, 0) h.j
  have c9 : w5.cell? ⟨w.heap.size, 9, none⟩ = some x9 := cell_of_row _ _ 9 _ 32 (0, 0) h.j
  have d0 : w5.cell? ⟨w.heap.size + 1, 0, none⟩ = some E := cell_of_row _ _ 0 _ 33 (0, 0) h.e
  show Leaves Tryz.prog Tryz.f7 tmps R [] .returning w5
  refine ⟨_, ?_, hR⟩
  simp [results, Tryz.results7, go_sem, h2, h3, c0, c1, c2, c3, c4, c5, c6, c7, c8, c9, d0]
end Go.Proofs.YtblibmalommdkaaGreat
