/-
  What the reference's Right answers, and the law's awake: true.
-/
import Derived.Test.YtmfokaicfcnhgaaWalki
namespace Go.Proofs.Ytmfokaicfcnhgaa
open Go.RowKit
theorem right_nl {l : List R} (h : Right l) : nl l = l := (nl_is l).uniq (p' := In l) ⟨h, fun _ => Iff.rfl⟩ fun x => ⟨fun h => h.2, fun hx => ⟨by have := right_above h hx; omega, hx⟩⟩
theorem rightB_eq (l : List R) : rightB l = decide (l = nl l) := by
  by_cases h : Right l
  · rw [rightB_of h, right_nl h]; simp
  · rw [rightB_not h]
    symm
    rw [decide_eq_false_iff_not]
    intro e
    exact h (e ▸ (nl_is l).1)
theorem RefRight_any (A : Option Addr) (len cap : Nat) (w : World) (l : List R) (hlen : l.length = len) (hr : Rd w w.heap.size A l) (hI : IR l) (hm : len ≤ 100000) :
    Calls Try.prog 18 #[.slice A len cap] w fun e w' => e = .returned (.bool (rightB l)) ∧ Below w.heap.size w w' := by
  have H := Lib.hid hlen; have HR := Lib.hid hr; have HI := Lib.hid hI
  clear hlen hr hI
  go_enter Try.func18, Try.ntmps18
  go_wp2_with fail
  refine (Mix_any A len cap none 0 0 0 (.inl rfl) w l [] H.out HR.out HI.out rfl (Rd.nil _ _ _) (fun r hr => by cases hr) hm (by omega)).mono ?_
  rintro e w1 ⟨⟨A5, n5, c5, rfl, hown5⟩, hb5⟩
  rw [mix_nl] at hown5
  have HO5 := Lib.hid hown5; have HB5 := Lib.hid hb5
  have hc := hown5.cap
  unfold maxLen at hc
  clear hown5 hb5
  go_wp2_with fail
  refine (Same_any A len cap A5 n5 c5 _ l (nl l) H.out (HR.out.up HB5.out) (by omega) HO5.out.1 HO5.out.rd (by omega)).mono ?_
  rintro e w2 ⟨rfl, hb6⟩
  have HB6 := Lib.hid hb6
  clear hb6
  go_wp2_with fail
  go_ret
  exact ⟨ret_bool (rightB_eq l).symm, below_up HB5.out HB6.out⟩
def la : List R := [(0, 9)]
def lb : List R := [(2, 4), (8, 20)]
def lc : List R := [(0, 2), (4, 8)]
theorem lc_eq : lessR la lb = lc := by
  refine (lessR_is la lb).uniq (p' := In lc) ⟨⟨by decide, by decide, by decide, by decide, trivial⟩, fun _ => Iff.rfl⟩ fun x => ?_
  simp only [la, lb, lc, in_cons, in_nil, or_false]
  omega
theorem lc_right : Right lc := ⟨by decide, by decide, by decide, by decide, trivial⟩
theorem lc_tot : tot (nl lc) = 6 := by rw [right_nl lc_right]; rfl
theorem rd_new (w : World) (l : List R) (cs : Array Value) (hcs : cs.toList = cells l) (g : Nat) (hg : g = w.heap.size) : Rd (w.alloc (.cells cs 29)) (w.alloc (.cells cs 29)).heap.size (some ⟨g, 0, none⟩) l := by
  subst hg
  intro k s hs
  obtain ⟨h0, h1⟩ := cells_get l k s hs
  rw [← hcs] at h0 h1
  refine ⟨w.heap.size, 0, rfl, by simp, ?_, ?_⟩
  · rw [cell_new, ← Array.getElem?_toList]; simpa using h0
  · rw [cell_new, ← Array.getElem?_toList]; simpa using h1
theorem la_ir : IR la := fun r hr => by
  simp only [la, List.mem_cons, List.not_mem_nil, or_false] at hr
  subst hr; unfold I64; decide
theorem lb_ir : IR lb := fun r hr => by
  simp only [lb, List.mem_cons, List.not_mem_nil, or_false] at hr
  rcases hr with rfl | rfl <;> (unfold I64; decide)
theorem lc_ir : IR lc := fun r hr => by
  simp only [lc, List.mem_cons, List.not_mem_nil, or_false] at hr
  rcases hr with rfl | rfl <;> (unfold I64; decide)
theorem awake_any (w : World) : Calls Try.prog 11 #[] w fun e w' => e = .returned (.bool true) ∧ Below w.heap.size w w' := by
  go_enter Try.func11, Try.ntmps11
  go_wp2_with fail
  have hA := Lib.hid (rd_new w la #[.int .i64 0, .int .i64 9] rfl _ rfl)
  have hB := Lib.hid (rd_new (w.alloc (.cells #[.int .i64 0, .int .i64 9] 29)) lb #[.int .i64 2, .int .i64 4, .int .i64 8, .int .i64 20] rfl (w.heap.size + 1) (by simp))
  have hA2 := Lib.hid (hA.out.up ((Below.refl _ _).alloc (Nat.le_refl _) (.cells #[.int .i64 2, .int .i64 4, .int .i64 8, .int .i64 20] 29)))
  have hb0 : Hid (Below w.heap.size w ((w.alloc (.cells #[.int .i64 0, .int .i64 9] 29)).alloc (.cells #[.int .i64 2, .int .i64 4, .int .i64 8, .int .i64 20] 29))) := Lib.hid (((Below.refl _ _).alloc (Nat.le_refl _) _).alloc (by simp) _)
  generalize (w.alloc (.cells #[.int .i64 0, .int .i64 9] 29)).alloc (.cells #[.int .i64 2, .int .i64 4, .int .i64 8, .int .i64 20] 29) = w1 at *
  refine (Less_any _ 1 1 _ 2 2 w1 la lb rfl hA2.out la_ir rfl hB.out lb_ir (by omega) (by omega)).mono ?_
  rintro e w2 ⟨⟨A5, n5, c5, rfl, hown5⟩, hb5⟩
  rw [lc_eq] at hown5
  have HO5 := Lib.hid hown5; have HB5 := Lib.hid (hb0.out.trans (hb5.mono hb0.out.size))
  obtain rfl : n5 = 2 := hown5.1.symm
  clear hown5 hb5 hA hB hA2
  go_wp2_with fail
  have hC := Lib.hid (rd_new w2 lc #[.int .i64 0, .int .i64 2, .int .i64 4, .int .i64 8] rfl _ rfl)
  have hb2 : Hid (Below w2.heap.size w2 (w2.alloc (.cells #[.int .i64 0, .int .i64 2, .int .i64 4, .int .i64 8] 29))) := Lib.hid ((Below.refl _ _).alloc (Nat.le_refl _) _)
  refine (Same_any A5 2 c5 _ 2 2 _ lc lc rfl (HO5.out.rd.up hb2.out) (by omega) rfl hC.out (by omega)).mono ?_
  rintro e w3 ⟨rfl, hb6⟩
  have hd : decide (lc = lc) = true := by simp
  rw [hd]
  have HB6 := Lib.hid (below_up hb2.out hb6)
  have HB7 := Lib.hid (below_up HB5.out HB6.out)
  have HR3 := Lib.hid (HO5.out.rd.up HB6.out)
  clear hd hb6 hb2 hC HO5 HB5 HB6 hb0
  go_wp2_with fail
  refine (Right_any A5 2 c5 w3 lc rfl HR3.out (by omega)).mono ?_
  rintro e w4 ⟨rfl, hb8⟩
  rw [rightB_of lc_right]
  have HR4 := Lib.hid (HR3.out.up hb8)
  have HB8 := Lib.hid (below_up HB7.out hb8)
  clear hb8 HR3 HB7
  go_wp2_with fail
  refine (Total_any A5 2 c5 w4 lc rfl HR4.out lc_ir (by omega)).mono ?_
  rintro e w5 ⟨rfl, hb9⟩
  rw [lc_tot]
  have HB9 := Lib.hid (below_up HB8.out hb9)
  clear hb9 HR4 HB8
  go_wp2_with fail
  go_ret
  exact ⟨rfl, HB9.out⟩
end Go.Proofs.Ytmfokaicfcnhgaa
