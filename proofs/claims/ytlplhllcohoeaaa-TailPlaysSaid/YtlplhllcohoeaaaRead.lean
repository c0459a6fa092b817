/-
  What disk.Read answers within a file's bytes, and with the power off.
-/
import Derived.Test.YtlplhllcohoeaaaLoad
namespace Go.Proofs.Ytlplhllcohoeaaa
open Go.RowKit
attribute [local go_sem ↓] append_told
section
variable {db mb : Nat} {d : Dv} {lo : Int} {N : Nat} {S : Nat → Prop} {F : Option Nat} {Ap : Option Addr} {np cp : Nat} {ps : List (Int × Value)}
theorem Read_down (w : World) (h : Dk w db mb d lo N S F Ap np cp ps) (hd : d.down = true) (at_ n : Int) :
    Calls Try.prog 29 #[.pointer (some ⟨db, 0, none⟩), .string tl, .int .i64 at_, .int .i64 n] w fun e w' => e = .returned (.tuple #[.slice none 0 0, .int .i64 8]) ∧ w = w' := by
  have hm := may_down w true h hd
  clear h
  go_enter Try.func29, Try.ntmps29
  go_wp2_with fail
  refine hm.mono ?_
  rintro e w1 ⟨rfl, rfl⟩
  clear hm
  go_wp2_with fail
  go_ret2
  exact ⟨rfl, rfl⟩
set_option maxRecDepth 20000 in
theorem Read_file (w : World) {fb : Nat} (h : Dk w db mb d lo N S (some fb) Ap np cp ps) (hd : d.down = false) (f : Fl) (hdf : d.f = some f) (at_ n : Nat) (hn : 0 < n) (hat : at_ + n ≤ f.now.length) :
    Calls Try.prog 29 #[.pointer (some ⟨db, 0, none⟩), .string tl, .int .i64 at_, .int .i64 n] w fun e w' => (∃ g c, e = .returned (.tuple #[.slice (some ⟨g, 0, none⟩) n c, .int .i64 0]) ∧ OwnB w' w.heap.size (some ⟨g, 0, none⟩) n c ((f.now.drop at_).take n)) ∧ Below w.heap.size w w' := by
  have hm := may_file w true h hd
  obtain ⟨f', An, cn, As, cs, q1, hf, _⟩ := h.fat
  obtain rfl : f' = f := by rw [hdf] at q1; injection q1 with q1; exact q1.symm
  obtain ⟨f0, _, _⟩ := hf.cells
  have hcap := hf.now.cap
  have hfb := h.lt _ hf.sf
  have hln := hf.ln
  obtain ⟨bb, bo, rfl, hrd⟩ : ∃ bb bo, An = some ⟨bb, bo, none⟩ ∧ RdB w w.heap.size (some ⟨bb, bo, none⟩) f'.now := by
    obtain ⟨x0, hx0⟩ := get_some f'.now 0 (by omega)
    obtain ⟨bb, bo, e, _⟩ := hf.now.rd 0 x0 hx0
    exact ⟨bb, bo, e, e ▸ hf.now.rd⟩
  have HP := Lib.hid (hrd.piece at_ n)
  have HL : Hid (((f'.now.drop at_).take n).length = n) := Lib.hid (by rw [List.length_take, List.length_drop]; omega)
  generalize (f'.now.drop at_).take n = l at *
  generalize f'.now.length = nl at *
  have q2 : IntKind.i64.wrap ((at_ : Int) + n) = (at_ : Int) + n := IntWalk.i64_in _ (by omega)
  have q3 : IntKind.i64.wrap ((nl : Int) - at_) = (nl : Int) - at_ := IntWalk.i64_in _ (by omega)
  have hne : ¬ (cn = at_) := by omega
  have h5 : ¬ ((nl : Int) - at_ < n) := by omega
  have h6 : ¬ ((nl : Int) < at_) := by omega
  have h7 : (at_ : Int) ≤ (at_ : Int) + n := by omega
  have h8 : (at_ : Int) + n ≤ (cn : Int) := by omega
  obtain ⟨g, k, w2, hrun0, hown, hgrow, _, _⟩ := run_append_lit (w.alloc (.cells #[] 5)) 22 w.heap.size w.heap.size (lit_one w) (Nat.le_refl _) (some ⟨bb, bo + at_, none⟩) n (cn - at_) l HL.out ((HP.out.alloc (Nat.le_refl _) _).more (by simp)) (by simp) (by omega)
  have hrun : (appTold #[22, 22] 22 #[.slice (some ⟨w.heap.size, 0, none⟩) 0 0, .slice (some ⟨bb, bo + at_, none⟩) n (cn - at_)]).run Try.prog (w.alloc (.cells #[] 5)) = .ok (.slice (some ⟨g, 0, none⟩) n k) w2 := hrun0
  have HO := Lib.hid hown
  have HB : Hid (Below w.heap.size w w2) := Lib.hid (((Below.refl _ _).alloc (Nat.le_refl _) _).grown hgrow (by simp) (fun k hk => by injection hk with hk; omega))
  clear h hf hrd q1 hdf hcap hown hgrow hrun0
  go_enter Try.func29, Try.ntmps29
  go_wp2_with fail
  refine hm.mono ?_
  rintro e w1 ⟨rfl, rfl⟩
  clear hm
  go_wp2_with fail
  go_ret2
  exact ⟨⟨g, k, rfl, HO.out⟩, HB.out⟩
end
end Go.Proofs.Ytlplhllcohoeaaa
