/-
  What space.New, Free and Settle leave.
-/
import Derived.Test.YtobeppeadkoieaaWalka
namespace Go.Proofs.Ytobeppeadkoieaa
open Go.RowKit
theorem add0 (b i : Nat) : (⟨b, 0, none⟩ : Addr).add i = ⟨b, i, none⟩ := by unfold Addr.add; split <;> simp_all
theorem new_sp (w : World) (res : Int) : Sp (((w.alloc (Obj.map #[] 0)).alloc (Obj.map #[] 0)).alloc (Obj.cells #[Value.int IntKind.i64 res, Value.map (some w.heap.size), Value.map (some (w.heap.size + 1)), Value.slice none 0 0] 53))
    (w.heap.size + 1 + 1) w.heap.size (w.heap.size + 1) res (fun _ => false) (fun _ => false) none 0 [] 0 := by
  have e1 : (w.alloc (Obj.map #[] 0)).heap.size = w.heap.size + 1 := by simp
  have e2 : ((w.alloc (Obj.map #[] 0)).alloc (Obj.map #[] 0)).heap.size = w.heap.size + 1 + 1 := by simp
  have hc : ∀ j, (((w.alloc (Obj.map #[] 0)).alloc (Obj.map #[] 0)).alloc (Obj.cells #[Value.int IntKind.i64 res, Value.map (some w.heap.size), Value.map (some (w.heap.size + 1)), Value.slice none 0 0] 53)).cell? ⟨w.heap.size + 1 + 1, j, none⟩
      = (#[Value.int IntKind.i64 res, Value.map (some w.heap.size), Value.map (some (w.heap.size + 1)), Value.slice none 0 0] : Array Value)[j]? := fun j => by rw [← e2]; exact cell_new _ _ _ j
  refine ⟨hc 0, hc 1, hc 2, hc 3, ?_, ?_, ?_, OwnI.nil _ _, by omega, by omega, by simp⟩
  · have hh := heap_alloc_new ((w.alloc (Obj.map #[] 0)).alloc (Obj.map #[] 0)) (Obj.cells #[Value.int IntKind.i64 res, Value.map (some w.heap.size), Value.map (some (w.heap.size + 1)), Value.slice none 0 0] 53)
    rw [e2] at hh
    unfold World.frozen?
    rw [hh]
    simp
  · exact ((SetM.made w _ _ _).kept (World.grownBy_alloc _ _ none) (by simp)).kept (World.grownBy_alloc _ _ none) (by simp)
  · have := SetM.made (w.alloc (Obj.map #[] 0)) Try.prog 3 4
    rw [e1] at this
    exact this.kept (World.grownBy_alloc _ _ none) (by simp)
theorem New_any (w : World) (res : Int) (h0 : 0 ≤ res) (h1 : res ≤ 1048576) :
    Calls Try.prog 7 #[.int .i64 res] w fun e w' => (∃ sb bu bw, e = .returned (.tuple #[.pointer (some ⟨sb, 0, none⟩), .int .i64 0]) ∧ w.heap.size ≤ bu ∧ Sp w' sb bu bw res (fun _ => false) (fun _ => false) none 0 [] 0) ∧ Below w.heap.size w w' := by
  have hmm := @run_makeMap Try.prog
  go_enter Try.func7, Try.ntmps7
  go_wp2_with fail
  go_ret2
  exact ⟨⟨w.heap.size + 1 + 1, w.heap.size, w.heap.size + 1, rfl, Nat.le_refl _, new_sp w res⟩, (((Below.refl _ _).alloc (Nat.le_refl _) _).alloc (by simp) _).alloc (by simp; omega) _⟩
section
variable {w w' : World} {sb bu bw : Nat} {res : Int} {u wt : Int → Bool} {A : Option Addr} {c : Nat} {tk : List Int} {N : Nat}
theorem Sp.turned (h : Sp w sb bu bw res u wt A c tk N) {r : Nat} (hr : r = bu ∨ r = bw) (hg : w.grownBy w' (some r)) {u' wt' : Int → Bool} {N' : Nat} (hu : SetM w' Try.prog 3 4 bu N' u') (hw : SetM w' Try.prog 3 4 bw N' wt') : Sp w' sb bu bw res u' wt' A c tk N' := by
  obtain ⟨c0, c1, c2, c3, f3, _, _, row, l1, l2, lt⟩ := h
  have hblk : w'.heap[sb]? = w.heap[sb]? := hg.block sb lt (by rintro hh; injection hh with hh; omega)
  have hc : ∀ j, w'.cell? ⟨sb, j, none⟩ = w.cell? ⟨sb, j, none⟩ := fun j => World.cell?_of_block (w := w) hblk
  have hrow : OwnI w' (sb+1) A tk.length c tk := by
    refine ⟨row.1, row.2.kept hg ?_⟩
    by_cases hA : A = none
    · left; rw [hA]; rfl
    · right
      intro hh
      have := row.2.lt r hh
      omega
  exact ⟨(hc 0).trans c0, (hc 1).trans c1, (hc 2).trans c2, (hc 3).trans c3, (World.frozen?_of_block (w := w) hblk).trans f3, hu, hw, hrow, l1, l2, Nat.lt_of_lt_of_le lt hg.size⟩
theorem grown_setCell (w : World) (a : Addr) (v : Value) : w.grownBy (w.setCell a v) (some a.block) := by
  have hb := (Below.refl 0 w).setCell (p := a) (Nat.zero_le _) v
  exact ⟨hb.os, hb.tape, hb.output, hb.size, fun k _ hne => Below.heap_setCell w a v k (fun e => hne (by rw [e]))⟩
theorem Sp.setTk (h : Sp w sb bu bw res u wt A c tk N) {A' : Option Addr} {c' : Nat} {tk' : List Int} (row' : OwnI w (sb+1) A' tk'.length c' tk') : Sp (w.setCell ⟨sb, 3, none⟩ (.slice A' tk'.length c')) sb bu bw res u wt A' c' tk' N := by
  obtain ⟨c0, c1, c2, c3, f3, hu, hw, row, l1, l2, lt⟩ := h
  refine ⟨?_, ?_, ?_, World.cell?_setCell_same _ _ _ c3, by rw [World.frozen?_setCell]; exact f3, hu.setCell (by simp; omega) _, hw.setCell (by simp; omega) _, ?_, l1, l2, by simpa using lt⟩
  · exact (World.cell?_setCell_other _ _ _ _ (by intro hh; injection hh with _ h2 _; omega)).trans c0
  · exact (World.cell?_setCell_other _ _ _ _ (by intro hh; injection hh with _ h2 _; omega)).trans c1
  · exact (World.cell?_setCell_other _ _ _ _ (by intro hh; injection hh with _ h2 _; omega)).trans c2
  · refine ⟨row'.1, row'.2.kept (grown_setCell w _ _) ?_⟩
    right
    intro hh
    have := row'.2.lt sb hh
    omega
end
/-- What lies beside the space stays, and beside its row. -/
def Kp (w w' : World) (sb : Nat) (A A' : Option Addr) : Prop := ∀ g, g < w.heap.size → sb < g → A.map Addr.block ≠ some g → w'.heap[g]? = w.heap[g]? ∧ A'.map Addr.block ≠ some g
theorem Kp.refl (w : World) (sb : Nat) (A : Option Addr) : Kp w w sb A A := fun _ _ _ h => ⟨rfl, h⟩
theorem Kp.trans {w w1 w2 : World} {sb : Nat} {A A1 A2 : Option Addr} (h : Kp w w1 sb A A1) (h' : Kp w1 w2 sb A1 A2) (hs : w.heap.size ≤ w1.heap.size) : Kp w w2 sb A A2 := fun g h1 h2 h3 => by
  obtain ⟨e, h4⟩ := h g h1 h2 h3
  obtain ⟨e', h5⟩ := h' g (by omega) h2 h4
  exact ⟨e'.trans e, h5⟩
theorem Kp.grown {w w1 : World} {sb r : Nat} (A : Option Addr) (h : w.grownBy w1 (some r)) (hr : r ≤ sb) : Kp w w1 sb A A := fun g h1 h2 h3 => ⟨h.block g h1 (fun e => by injection e with e; omega), h3⟩
theorem Settle_any (w : World) (sb bu bw : Nat) (res : Int) (u wt : Int → Bool) (A : Option Addr) (c : Nat) (tk : List Int) (N : Nat) (h : Sp w sb bu bw res u wt A c tk N) :
    Calls Try.prog 20 #[.pointer (some ⟨sb, 0, none⟩)] w fun e w' => e = .returned (.tuple #[]) ∧ Sp w' sb bu bw res u (fun _ => false) none 0 [] N ∧ Below bu w w' ∧ Kp w w' sb A none := by
  obtain ⟨c0, c1, c2, c3, f3, hu, hw, row, l1, l2, lt⟩ := h
  obtain ⟨w1, hrun, hw1, hg1⟩ := hw.empty mty 0
  have h1 : Sp w1 sb bu bw res u (fun _ => false) A c tk N := Sp.turned ⟨c0, c1, c2, c3, f3, hu, hw, row, l1, l2, lt⟩ (.inr rfl) hg1 (hu.kept hg1 (by intro hh; injection hh with hh; omega)) hw1
  have g3 := h1.c3
  have gf := h1.f3
  have HS := Lib.hid h1
  have HG := Lib.hid hg1
  clear hu hw row hw1 hg1 h1
  go_enter Try.func20, Try.ntmps20
  go_wp2_with fail
  have hg := HG.out
  have hb : Below bu w (w1.setCell ⟨sb, 3, none⟩ (.slice none 0 0)) := ((Below.refl bu w).grown hg (by omega) (fun k hk => by injection hk with hk; omega)).setCell (show bu ≤ sb by omega) _
  have hk : Kp w (w1.setCell ⟨sb, 3, none⟩ (.slice none 0 0)) sb A none := fun g h1 h2 h3 => ⟨((Kp.grown (sb := sb) A hg (by omega)).trans (Kp.grown (r := sb) A (grown_setCell w1 ⟨sb, 3, none⟩ _) (Nat.le_refl _)) hg.size g h1 h2 h3).1, by simp⟩
  refine ⟨rfl, .tuple #[], ?_, rfl, HS.out.setTk (tk' := []) (OwnI.nil _ _), hb, hk⟩
  first | rfl | (simp [Results, Try.f20]; done) | kernel_rfl
end Go.Proofs.Ytobeppeadkoieaa
