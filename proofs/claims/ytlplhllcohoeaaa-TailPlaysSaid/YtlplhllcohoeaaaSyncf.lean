/-
  The disk's Sync of a file: the safe bytes are the file's, nothing is pending.
-/
import Derived.Test.YtlplhllcohoeaaaSyncs
import Derived.Test.YtlplhllcohoeaaaSaved
namespace Go.Proofs.Ytlplhllcohoeaaa
open Go.RowKit
attribute [local go_sem ↓] append_told
theorem only_fr {w w' : World} {S : Nat → Prop} (h : Only w w' S) : Fr w w' S S := ⟨h.os, h.tape, h.output, h.size, fun g h1 h2 => ⟨h.rest g h1 h2, h2⟩⟩
section
variable {db mb : Nat} {d : Dv} {lo : Int} {N : Nat} {S : Nat → Prop} {F : Option Nat} {Ap : Option Addr} {np cp : Nat} {ps : List (Int × Value)}
/-- 'append([]byte{}, b...)' told in a world of which the bytes read. -/
theorem told_lit (W : World) (A : Option Addr) (m c : Nat) (b : List Int) (hlen : b.length = m) (hr : RdB W W.heap.size A b) (hno : A = none → m = 0 ∧ c = 0) (hm : m ≤ 140737488355328) :
    ∃ g k w2, (appTold #[22, 22] 22 #[.slice (some ⟨W.heap.size, 0, none⟩) 0 0, .slice A m c]).run Try.prog (W.alloc (.cells #[] 5)) = .ok (.slice (some ⟨g, 0, none⟩) m k) w2 ∧ OwnB w2 W.heap.size (some ⟨g, 0, none⟩) m k b ∧ Below W.heap.size W w2 := by
  obtain ⟨g, k, w2, hrun, hown, hgrow, _, _⟩ := run_append_lit (W.alloc (.cells #[] 5)) 22 W.heap.size W.heap.size (lit_one W) (Nat.le_refl _) A m c b hlen ((hr.alloc (Nat.le_refl _) _).more (by simp)) hno hm
  exact ⟨g, k, w2, hrun, hown, ((Below.refl _ _).alloc (Nat.le_refl _) _).grown hgrow (by simp) (fun k hk => by injection hk with hk; omega)⟩
theorem Sync_file (w : World) {fb : Nat} (h : Dk w db mb d lo N S (some fb) Ap np cp ps) (hd : d.down = false) (ha : ¬ (d.armed = true ∧ d.left = 0)) (hN : N ≤ 1099511627776) (f : Fl) (hdf : d.f = some f) :
    Calls Try.prog 32 #[.pointer (some ⟨db, 0, none⟩), .string tl] w fun e w' => e = .returned (.int .i64 0) ∧ ∃ S', Dk w' db mb { d with left := d.left - 1, chg := d.chg + 1, f := some ⟨f.now, f.now, true⟩ } lo (N + 1) S' (some fb) none 0 0 [] ∧ Fr w w' S S' := by
  have HM := Lib.hid (may_file w true h hd)
  have HC := Lib.hid (change_on w h hN ha)
  have hnp := h.pn
  clear h hd
  go_enter Try.func32, Try.ntmps32
  go_wp2_with fail
  refine HM.out.mono ?_
  rintro e w1 ⟨rfl, rfl⟩
  go_wp2_with fail
  refine HC.out.mono ?_
  rintro e w2 ⟨rfl, hd2, hf2⟩
  clear HM HC
  obtain ⟨f', An, cn, As, cs, q1, hff, hap⟩ := hd2.fat
  obtain rfl : f' = f := by
    have q2 : some f = some f' := hdf.symm.trans q1
    injection q2 with q2; exact q2.symm
  obtain ⟨f0, f1, f2⟩ := hff.cells
  have hln := hff.ln
  have hfb := hd2.lt _ hff.sf
  obtain ⟨g, k, w3, hrun, hown, hb3⟩ := told_lit w2 An f'.now.length cn f'.now rfl hff.now.rd hff.now.none (by omega)
  obtain ⟨w4, hw4⟩ : ∃ w4, w4 = (w3.setCell ⟨fb, 1, none⟩ (.slice (some ⟨g, 0, none⟩) f'.now.length k)).setCell ⟨fb, 2, none⟩ (.bool true) := ⟨_, rfl⟩
  obtain ⟨hd4, ho4⟩ := hd2.saved hff hap hb3 hown hln w4 hw4
  have z1 : w3.frozen? ⟨fb, 1, none⟩ = false := (hb3.frozen (p := ⟨fb, 1, none⟩) hfb).trans (hff.froz 1)
  have z2 : w3.frozen? ⟨fb, 2, none⟩ = false := (hb3.frozen (p := ⟨fb, 2, none⟩) hfb).trans (hff.froz 2)
  have y1 : w3.cell? ⟨fb, 1, none⟩ = some (.slice As f'.safe.length cs) := (hb3.cell (p := ⟨fb, 1, none⟩) hfb).trans f1
  have y2 : w3.cell? ⟨fb, 2, none⟩ = some (.bool f'.sure) := (hb3.cell (p := ⟨fb, 2, none⟩) hfb).trans f2
  have HS := Lib.hid (settled_any w4 hd4 (by omega))
  have HF := Lib.hid (hf2.trans ho4.fr)
  clear hd2 hf2 hff hap hd4 ho4 hown hb3 f1 f2 q1
  generalize f'.now.length = nl at *
  go_wp2_with fail
  try rw [← hw4]
  refine HS.out.mono ?_
  rintro e w5 ⟨rfl, hd5, ho5⟩
  have HD := Lib.hid hd5
  have HF5 := Lib.hid (HF.out.trans (only_fr ho5))
  clear hd5 ho5 HS HF hrun
  go_wp2_with fail
  go_ret
  exact ⟨rfl, _, HD.out, HF5.out⟩
end
end Go.Proofs.Ytlplhllcohoeaaa
