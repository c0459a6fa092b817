/-
  What awake answers in the statements of this chapter: true.
-/
import Derived.Test.YtdpjblepcpjomaaWRes
import Derived.Test.YtdpjblepcpjomaaWMove
import Derived.Test.YtdpjblepcpjomaaSWalki
import Derived.Test.YtdpjblepcpjomaaRWalkj
namespace Go.Proofs.Ytdpjblepcpjomaa.Rb
open Go.RowKit
def aT : List S := [⟨0, 4, 4⟩, ⟨1, 0, 2⟩]
def aL : List S := [⟨0, 0, 10⟩]
def aR : List R := [(0, 4), (8, 10)]
def aM : List S := [⟨1, 2, 4⟩, ⟨0, 0, 4⟩, ⟨1, 6, 2⟩]
theorem aT_may : MayX aT := ⟨by decide, fun s hs => by
  simp only [aT, List.mem_cons, List.not_mem_nil, or_false] at hs
  rcases hs with rfl | rfl <;> (unfold Sc.okS; decide), by decide⟩
theorem aL_may : MayX aL := ⟨by decide, fun s hs => by
  simp only [aL, List.mem_cons, List.not_mem_nil, or_false] at hs
  subst hs; unfold Sc.okS; decide, by decide⟩
theorem aLs_may : ∀ l ∈ [aL], MayX l := fun l hl => by simp at hl; subst hl; exact aL_may
theorem aR_right : Right aR := ⟨by decide, by decide, by decide, by decide, trivial⟩
theorem aR_eq : rescueR aT [aL] = aR := by
  refine (rescue_is (T := aT) (ls := [aL]) (fun l hl => (aLs_may l hl).2.1)).uniq (p' := In aR) ⟨aR_right, fun _ => Iff.rfl⟩ fun y => ?_
  simp only [List.flatten_cons, List.flatten_nil, List.append_nil, mem_bts, aT, aL, aR, in_cons, in_nil, or_false, List.mem_cons, List.not_mem_nil, exists_eq_or_imp, exists_eq_left, true_and]
  omega
theorem aR_ir : IR aR := fun r hr => by
  simp only [aR, List.mem_cons, List.not_mem_nil, or_false] at hr
  rcases hr with rfl | rfl <;> (unfold I64; decide)
theorem aE : rescueE aT [aL] = 0 ∧ rescueL aT [aL] = aR := ⟨rescueE_yes aT_may aLs_may, by rw [rescueL_yes aT_may aLs_may, aR_eq]⟩
theorem aM_eq : moveE aT aR 2 aL = 0 ∧ moveR aT aR 2 aL = aM := by
  have h := move_done (T := aT) (RS := aR) (a := 2) (l := aL) ⟨aT_may, aL_may, aR_right, by decide, by decide, by decide⟩ (by decide)
  exact ⟨h.1, h.2.trans (by kernel_rfl)⟩
theorem rd_newS (w : World) (l : List S) (cs : Array Value) (hcs : cs.toList = Sc.cells l) (g : Nat) (hg : g = w.heap.size) : Sc.Rd (w.alloc (.cells cs 56)) (w.alloc (.cells cs 56)).heap.size (some ⟨g, 0, none⟩) l := by
  subst hg
  intro k s hs
  obtain ⟨h0, h1, h2⟩ := Sc.cells_get l k s hs
  rw [← hcs] at h0 h1 h2
  refine ⟨w.heap.size, 0, rfl, by simp, ?_, ?_, ?_⟩
  · rw [Sc.cell_new, ← Array.getElem?_toList]; simpa using h0
  · rw [Sc.cell_new, ← Array.getElem?_toList]; simpa using h1
  · rw [Sc.cell_new, ← Array.getElem?_toList]; simpa using h2
theorem rd_newR (w : World) (l : List R) (cs : Array Value) (hcs : cs.toList = cells l) (g : Nat) (hg : g = w.heap.size) : Rd (w.alloc (.cells cs 52)) (w.alloc (.cells cs 52)).heap.size (some ⟨g, 0, none⟩) l := by
  subst hg
  intro k s hs
  obtain ⟨h0, h1⟩ := cells_get l k s hs
  rw [← hcs] at h0 h1
  refine ⟨w.heap.size, 0, rfl, by simp, ?_, ?_⟩
  · rw [cell_new, ← Array.getElem?_toList]; simpa using h0
  · rw [cell_new, ← Array.getElem?_toList]; simpa using h1
set_option maxHeartbeats 800000 in
set_option maxRecDepth 100000 in
theorem awake_any (w : World) : Calls Try.prog 8 #[] w fun e w' => e = .returned (.bool true) ∧ Below w.heap.size w w' := by
  go_enter Try.func8, Try.ntmps8
  go_wp2_with fail
  have b1 : Below w.heap.size w (w.alloc (.cells #[.int .i64 0, .int .i64 4, .int .i64 4, .int .i64 1, .int .i64 0, .int .i64 2] 56)) := (Below.refl _ _).alloc (Nat.le_refl _) _
  have r1 := rd_newS w aT #[.int .i64 0, .int .i64 4, .int .i64 4, .int .i64 1, .int .i64 0, .int .i64 2] rfl _ rfl
  have s1 : (w.alloc (.cells #[.int .i64 0, .int .i64 4, .int .i64 4, .int .i64 1, .int .i64 0, .int .i64 2] 56)).heap.size = w.heap.size + 1 := by simp
  generalize w.alloc (.cells #[.int .i64 0, .int .i64 4, .int .i64 4, .int .i64 1, .int .i64 0, .int .i64 2] 56) = w1 at *
  have r2 := rd_newS w1 aL #[.int .i64 0, .int .i64 0, .int .i64 10] rfl (w.heap.size + 1) s1.symm
  have b2 : Below w1.heap.size w1 (w1.alloc (.cells #[.int .i64 0, .int .i64 0, .int .i64 10] 56)) := (Below.refl _ _).alloc (Nat.le_refl _) _
  have s2 : (w1.alloc (.cells #[.int .i64 0, .int .i64 0, .int .i64 10] 56)).heap.size = w.heap.size + 1 + 1 := by simp [s1]
  generalize w1.alloc (.cells #[.int .i64 0, .int .i64 0, .int .i64 10] 56) = w2 at *
  have b3 : Below w2.heap.size w2 (w2.alloc (.cells #[.slice (some ⟨w.heap.size + 1, 0, none⟩) 1 1] 22)) := (Below.refl _ _).alloc (Nat.le_refl _) _
  have r3 : Sc.RdL (w2.alloc (.cells #[.slice (some ⟨w.heap.size + 1, 0, none⟩) 1 1] 22)) (w2.alloc (.cells #[.slice (some ⟨w.heap.size + 1, 0, none⟩) 1 1] 22)).heap.size (some ⟨w.heap.size + 1 + 1, 0, none⟩) [aL] := by
    intro k l hl
    match k with
    | 0 =>
      simp at hl; subst hl
      refine ⟨w.heap.size + 1 + 1, 0, some ⟨w.heap.size + 1, 0, none⟩, 1, rfl, by simp [s2], ?_, r2.up b3⟩
      rw [← s2, Sc.cell_new]; rfl
    | k+1 => simp at hl
  have q1 := (r1.up b2).up b3
  have q2 := r2.up b3
  have B3 := Lib.hid (below_up (below_up b1 b2) b3)
  have Q1 := Lib.hid q1; have Q2 := Lib.hid q2; have R3 := Lib.hid r3
  have S1 := Lib.hid s2
  clear b1 b2 b3 r1 r2 r3 q1 q2 s1 s2
  generalize w2.alloc (.cells #[.slice (some ⟨w.heap.size + 1, 0, none⟩) 1 1] 22) = w3 at *
  refine (Rescue_any _ 2 2 _ 1 1 _ aT [aL] rfl Q1.out (by omega) rfl R3.out (by omega) (by decide)).mono ?_
  rintro e w4 ⟨⟨A4, n4, c4, rfl, own4⟩, b4⟩
  rw [aE.1]
  rw [aE.2] at own4
  obtain rfl : n4 = 2 := own4.1.symm
  have O4 := Lib.hid own4.rd
  have P1 := Lib.hid (Q1.out.up b4); have P2 := Lib.hid (Q2.out.up b4)
  have B4 := Lib.hid (below_up B3.out b4)
  clear own4 b4 Q1 Q2 R3 B3
  go_wp2_with fail
  refine (Move_any _ 2 2 A4 2 c4 2 _ 1 1 _ aT aR aL rfl P1.out (by omega) rfl O4.out aR_ir (by omega) rfl P2.out (by omega) (by omega) (by omega)).mono ?_
  rintro e w5 ⟨⟨A5, n5, c5, rfl, own5⟩, b5⟩
  rw [aM_eq.1]
  rw [aM_eq.2] at own5
  obtain rfl : n5 = 3 := own5.1.symm
  have O5 := Lib.hid own5.rd
  have O4' := Lib.hid (O4.out.up b5)
  have B5 := Lib.hid (below_up B4.out b5)
  clear own5 b5 O4 P1 P2 B4
  go_wp2_with fail
  have b6 : Below w5.heap.size w5 (w5.alloc (.cells #[.int .i64 0, .int .i64 4, .int .i64 8, .int .i64 10] 52)) := (Below.refl _ _).alloc (Nat.le_refl _) _
  have r6 := rd_newR w5 aR #[.int .i64 0, .int .i64 4, .int .i64 8, .int .i64 10] rfl _ rfl
  have q4 := O4'.out.up b6
  have q5 := O5.out.up b6
  have B6 := Lib.hid (below_up B5.out b6)
  have R6 := Lib.hid r6; have Q4 := Lib.hid q4; have Q5 := Lib.hid q5
  clear b6 r6 q4 q5 B5 O4' O5
  generalize w5.alloc (.cells #[.int .i64 0, .int .i64 4, .int .i64 8, .int .i64 10] 52) = w6 at *
  refine (Same_any A4 2 c4 _ 2 2 _ aR aR rfl Q4.out (by omega) rfl R6.out (by omega)).mono ?_
  rintro e w7 ⟨rfl, b7⟩
  rw [show decide (aR = aR) = true from decide_eq_true rfl]
  have Q5' := Lib.hid (Q5.out.up b7)
  have B7 := Lib.hid (below_up B6.out b7)
  clear b7 Q4 Q5 R6 B6
  go_wp2_with fail
  have b8 : Below w7.heap.size w7 (w7.alloc (.cells #[.int .i64 1, .int .i64 2, .int .i64 4, .int .i64 0, .int .i64 0, .int .i64 4, .int .i64 1, .int .i64 6, .int .i64 2] 56)) := (Below.refl _ _).alloc (Nat.le_refl _) _
  have r8 := rd_newS w7 aM #[.int .i64 1, .int .i64 2, .int .i64 4, .int .i64 0, .int .i64 0, .int .i64 4, .int .i64 1, .int .i64 6, .int .i64 2] rfl _ rfl
  have q8 := Q5'.out.up b8
  have B8 := Lib.hid (below_up B7.out b8)
  have R8 := Lib.hid r8; have Q8 := Lib.hid q8
  clear b8 r8 q8 B7 Q5'
  generalize w7.alloc (.cells #[.int .i64 1, .int .i64 2, .int .i64 4, .int .i64 0, .int .i64 0, .int .i64 4, .int .i64 1, .int .i64 6, .int .i64 2] 56) = w8 at *
  refine (Sc.Same_true A5 3 c5 _ 3 3 _ aM rfl Q8.out (by omega) rfl R8.out).mono ?_
  rintro e w9 ⟨rfl, b9⟩
  have B9 := Lib.hid (below_up B8.out b9)
  clear b9 Q8 R8 B8
  go_wp2_with fail
  go_ret
  exact ⟨rfl, B9.out⟩
end Go.Proofs.Ytdpjblepcpjomaa.Rb
