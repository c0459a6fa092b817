/-
  What the reference's Right answers, and the law's awake: true.
-/
import Derived.Test.YtdpjblepcpjomaaRWalki
namespace Go.Proofs.Ytdpjblepcpjomaa
open Go.RowKit
theorem right_nl {l : List R} (h : Right l) : nl l = l := (nl_is l).uniq (p' := In l) ⟨h, fun _ => Iff.rfl⟩ fun x => ⟨fun h => h.2, fun hx => ⟨by have := right_above h hx; omega, hx⟩⟩
theorem rightB_eq (l : List R) : rightB l = decide (l = nl l) := by
  by_cases h : Right l
  · rw [rightB_of h, right_nl h]; simp
  · rw [rightB_not h]
    symm
    rw [decide_eq_false_iff_not]
    intro e
    exact h (e ▸ (nl_is l).1)
theorem RefRight_any (A : Option Addr) (len cap : Nat) (w : World) (l : List R) (hlen : l.length = len) (hr : Rd w w.heap.size A l) (hI : IR l) (hm : len ≤ 100000) :
    Calls Try.prog 39 #[.slice A len cap] w fun e w' => e = .returned (.bool (rightB l)) ∧ Below w.heap.size w w' := by
  have H := Lib.hid hlen; have HR := Lib.hid hr; have HI := Lib.hid hI
  clear hlen hr hI
  go_enter Try.func39, Try.ntmps39
  go_wp2_with fail
  refine (Mix_any A len cap none 0 0 0 (.inl rfl) w l [] H.out HR.out HI.out rfl (Rd.nil _ _ _) (fun r hr => by cases hr) hm (by omega)).mono ?_
  rintro e w1 ⟨⟨A5, n5, c5, rfl, hown5⟩, hb5⟩
  rw [mix_nl] at hown5
  have HO5 := Lib.hid hown5; have HB5 := Lib.hid hb5
  have hc := hown5.cap
  unfold maxLen at hc
  clear hown5 hb5
  go_wp2_with fail
  refine (Same_any A len cap A5 n5 c5 _ l (nl l) H.out (HR.out.up HB5.out) (by omega) HO5.out.1 HO5.out.rd (by omega)).mono ?_
  rintro e w2 ⟨rfl, hb6⟩
  have HB6 := Lib.hid hb6
  clear hb6
  go_wp2_with fail
  go_ret
  exact ⟨ret_bool (rightB_eq l).symm, below_up HB5.out HB6.out⟩
def la : List R := [(0, 9)]
def lb : List R := [(2, 4), (8, 20)]
def lc : List R := [(0, 2), (4, 8)]
theorem lc_eq : lessR la lb = lc := by
  refine (lessR_is la lb).uniq (p' := In lc) ⟨⟨by decide, by decide, by decide, by decide, trivial⟩, fun _ => Iff.rfl⟩ fun x => ?_
  simp only [la, lb, lc, in_cons, in_nil, or_false]
  omega
theorem lc_right : Right lc := ⟨by decide, by decide, by decide, by decide, trivial⟩
theorem lc_tot : tot (nl lc) = 6 := by rw [right_nl lc_right]; rfl
theorem rd_new (w : World) (l : List R) (cs : Array Value) (hcs : cs.toList = cells l) (g : Nat) (hg : g = w.heap.size) : Rd (w.alloc (.cells cs 52)) (w.alloc (.cells cs 52)).heap.size (some ⟨g, 0, none⟩) l := by
  subst hg
  intro k s hs
  obtain ⟨h0, h1⟩ := cells_get l k s hs
  rw [← hcs] at h0 h1
  refine ⟨w.heap.size, 0, rfl, by simp, ?_, ?_⟩
  · rw [cell_new, ← Array.getElem?_toList]; simpa using h0
  · rw [cell_new, ← Array.getElem?_toList]; simpa using h1
theorem la_ir : IR la := fun r hr => by
  simp only [la, List.mem_cons, List.not_mem_nil, or_false] at hr
  subst hr; unfold I64; decide
theorem lb_ir : IR lb := fun r hr => by
  simp only [lb, List.mem_cons, List.not_mem_nil, or_false] at hr
  rcases hr with rfl | rfl <;> (unfold I64; decide)
theorem lc_ir : IR lc := fun r hr => by
  simp only [lc, List.mem_cons, List.not_mem_nil, or_false] at hr
  rcases hr with rfl | rfl <;> (unfold I64; decide)
end Go.Proofs.Ytdpjblepcpjomaa
