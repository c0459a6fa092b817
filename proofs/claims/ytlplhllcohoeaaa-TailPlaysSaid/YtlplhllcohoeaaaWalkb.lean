/-
  What disk.New, change, Arm and Size answer and leave.
-/
import Derived.Test.YtlplhllcohoeaaaWalka
import Derived.Test.YtlplhllcohoeaaaKeeps
namespace Go.Proofs.Ytlplhllcohoeaaa
open Go.RowKit
def nu (room : Int) : Dv := ⟨room, 0, 0, false, false, none⟩
theorem add0 (b i : Nat) : (⟨b, 0, none⟩ : Addr).add i = ⟨b, i, none⟩ := by unfold Addr.add; split <;> simp_all
theorem new_dk (w : World) (room : Int) (h0 : 0 ≤ room) (h1 : room ≤ 1099511627776) (lo : Int) : Dk ((w.alloc (Obj.map #[] 0)).alloc (Obj.cells #[.int .i64 room, .int .i64 0, .int .i64 0, .bool false, .bool false, .map (some w.heap.size), .slice none 0 0] 59))
    (w.heap.size + 1) w.heap.size (nu room) lo 0 (fun g => g = w.heap.size ∨ g = w.heap.size + 1) none none 0 0 [] := by
  have e1 : (w.alloc (Obj.map #[] 0)).heap.size = w.heap.size + 1 := by simp
  refine ⟨?_, (FM.made w).kept (World.grownBy_alloc _ _ none) (by simp), .inl ⟨rfl, rfl⟩, ⟨World.ownsRow_nil .., rfl, by simp, by simp⟩, Nat.le_refl _, .inr rfl, .inl rfl, ?_, ⟨h0, h1⟩, ⟨by simp [nu], by simp [nu]⟩, ⟨by simp [nu], by simp [nu]⟩⟩
  · rw [← e1]; exact heap_alloc_new _ _
  · rintro g (rfl | rfl) <;> (simp <;> omega)
theorem New_any (w : World) (room : Int) (h0 : 0 ≤ room) (h1 : room ≤ 1099511627776) (lo : Int) :
    Calls Try.prog 6 #[.int .i64 room] w fun e w' => ∃ db mb, e = .returned (.tuple #[.pointer (some ⟨db, 0, none⟩), .int .i64 0]) ∧ Dk w' db mb (nu room) lo 0 (fun g => g = mb ∨ g = db) none none 0 0 [] ∧ w.heap.size ≤ db ∧ w.heap.size ≤ mb ∧ Below w.heap.size w w' := by
  have hmm := @run_makeMap Try.prog
  go_enter Try.func6, Try.ntmps6
  go_wp2_with fail
  go_ret2
  exact ⟨w.heap.size + 1, w.heap.size, rfl, new_dk w room h0 h1 lo, by omega, Nat.le_refl _, ((Below.refl _ _).alloc (Nat.le_refl _) _).alloc (by simp) _⟩
theorem two_set {w : World} {db i j : Nat} (u v : Value) : ∀ g, g ≠ db → ((w.setCell ⟨db, i, none⟩ u).setCell ⟨db, j, none⟩ v).heap[g]? = w.heap[g]? := fun g hg => by
  rw [heap_setCell_other _ _ _ _ (by simpa using hg), heap_setCell_other _ _ _ _ (by simpa using hg)]
theorem fr_set {w : World} {db i : Nat} (u : Value) {S : Nat → Prop} (hS : S db) : Fr w (w.setCell ⟨db, i, none⟩ u) S S := by
  refine ⟨rfl, rfl, rfl, by simp, fun g _ hg => ⟨heap_setCell_other _ _ _ _ ?_, hg⟩⟩
  rintro rfl
  exact hg hS
section
variable {w : World} {db mb : Nat} {d : Dv} {lo : Int} {N : Nat} {S : Nat → Prop} {F : Option Nat} {Ap : Option Addr} {np cp : Nat} {ps : List (Int × Value)}
theorem change_off (w : World) (h : Dk w db mb d lo N S F Ap np cp ps) (ha : d.armed = true) (hl : d.left = 0) :
    Calls Try.prog 30 #[.pointer (some ⟨db, 0, none⟩)] w fun e w' => e = .returned (.int .i64 8) ∧ Dk w' db mb { d with down := true } lo N S F Ap np cp ps ∧ Fr w w' S S := by
  obtain ⟨_, _, c2, c3, c4, _⟩ := h.cells
  have f4 := h.froz 4
  rw [ha] at c3
  rw [hl] at c2
  have hs := h.sd
  have HH := Lib.hid h
  clear h
  go_enter Try.func30, Try.ntmps30
  go_wp2_with fail
  go_ret
  have h := HH.out
  refine ⟨rfl, h.setD (by simp) (fun g hg => heap_setCell_other _ _ _ _ hg) ?_ rfl rfl (Nat.le_refl _) h.cg h.lf, fr_set _ hs⟩
  rw [heap_setCell_same _ _ _ _ _ _ h.head]
  rfl
theorem change_on (w : World) (h : Dk w db mb d lo N S F Ap np cp ps) (hN : N ≤ 1099511627776) (ha : ¬ (d.armed = true ∧ d.left = 0)) :
    Calls Try.prog 30 #[.pointer (some ⟨db, 0, none⟩)] w fun e w' => e = .returned (.int .i64 0) ∧ Dk w' db mb { d with left := d.left - 1, chg := d.chg + 1 } lo (N+1) S F Ap np cp ps ∧ Fr w w' S S := by
  obtain ⟨_, c1, c2, c3, c4, _⟩ := h.cells
  have f1 := h.froz 1
  have f2 := h.froz 2
  have hs := h.sd
  have lf := h.lf
  have cg := h.cg
  have q1 : IntKind.i64.wrap (d.left - 1) = d.left - 1 := IntWalk.i64_in _ (by omega)
  have q2 : IntKind.i64.wrap (d.chg + 1) = d.chg + 1 := IntWalk.i64_in _ (by omega)
  have HH := Lib.hid h
  have fin : Dk ((w.setCell ⟨db, 2, none⟩ (.int .i64 (d.left - 1))).setCell ⟨db, 1, none⟩ (.int .i64 (d.chg + 1))) db mb { d with left := d.left - 1, chg := d.chg + 1 } lo (N+1) S F Ap np cp ps := by
    refine h.setD (by simp) (two_set _ _) ?_ rfl rfl (by omega) (by simp only; omega) (by simp only; omega)
    rw [heap_setCell_same _ _ _ _ _ _ (heap_setCell_same _ _ _ _ _ _ h.head)]
    rfl
  have HF := Lib.hid fin
  clear h fin lf cg
  cases hd : d.armed with
  | false =>
    rw [hd] at c3
    clear ha
    go_enter Try.func30, Try.ntmps30
    go_wp2_with fail
    go_ret
    have hf := HF.out
    rw [hd] at hf
    exact ⟨rfl, hf, (fr_set _ hs).trans (fr_set _ hs)⟩
  | true =>
    rw [hd] at c3
    have hl : ¬ d.left = 0 := fun e => ha ⟨hd, e⟩
    clear ha
    go_enter Try.func30, Try.ntmps30
    go_wp2_with fail
    go_ret
    have hf := HF.out
    rw [hd] at hf
    exact ⟨rfl, hf, (fr_set _ hs).trans (fr_set _ hs)⟩
theorem Arm_any (w : World) (n : Int) (h0 : 0 ≤ n) (h1 : n ≤ 9223372036854775807) (h : Dk w db mb d lo N S F Ap np cp ps) :
    Calls Try.prog 16 #[.pointer (some ⟨db, 0, none⟩), .int .i64 n] w fun e w' => e = .returned (.int .i64 0) ∧ Dk w' db mb { d with armed := true, left := n } lo N S F Ap np cp ps ∧ Fr w w' S S := by
  obtain ⟨_, _, c2, c3, _, _⟩ := h.cells
  have f3 := h.froz 3
  have f2 := h.froz 2
  have hs := h.sd
  have fin : Dk ((w.setCell ⟨db, 3, none⟩ (.bool true)).setCell ⟨db, 2, none⟩ (.int .i64 n)) db mb { d with armed := true, left := n } lo N S F Ap np cp ps := by
    refine h.setD (by simp) (two_set _ _) ?_ rfl rfl (by omega) h.cg ⟨by simp only; omega, h1⟩
    rw [heap_setCell_same _ _ _ _ _ _ (heap_setCell_same _ _ _ _ _ _ h.head)]
    rfl
  have HF := Lib.hid fin
  clear h fin
  go_enter Try.func16, Try.ntmps16
  go_wp2_with fail
  go_ret
  exact ⟨rfl, HF.out, (fr_set _ hs).trans (fr_set _ hs)⟩
theorem Arm_neg (w : World) (n : Int) (h0 : n < 0) (a : Addr) :
    Calls Try.prog 16 #[.pointer (some a), .int .i64 n] w fun e w' => e = .returned (.int .i64 1) ∧ w = w' := by
  go_enter Try.func16, Try.ntmps16
  go_wp2_with fail
  go_ret
  exact ⟨rfl, rfl⟩
theorem may_down (w : World) (there : Bool) (h : Dk w db mb d lo N S F Ap np cp ps) (hd : d.down = true) :
    Calls Try.prog 28 #[.pointer (some ⟨db, 0, none⟩), .string tl, .bool there] w fun e w' => e = .returned (.tuple #[.pointer none, .int .i64 8]) ∧ w = w' := by
  have := may_any w db mb d lo N S F Ap np cp ps there h
  rwa [if_pos hd] at this
theorem may_gone (w : World) (h : Dk w db mb d lo N S none Ap np cp ps) (hd : d.down = false) :
    Calls Try.prog 28 #[.pointer (some ⟨db, 0, none⟩), .string tl, .bool true] w fun e w' => e = .returned (.tuple #[.pointer none, .int .i64 6]) ∧ w = w' := by
  have := may_any w db mb d lo N S none Ap np cp ps true h
  rwa [hd, if_neg (show ¬ (false = true) from by decide), if_pos ⟨rfl, rfl⟩] at this
theorem may_new (w : World) (h : Dk w db mb d lo N S none Ap np cp ps) (hd : d.down = false) :
    Calls Try.prog 28 #[.pointer (some ⟨db, 0, none⟩), .string tl, .bool false] w fun e w' => e = .returned (.tuple #[.pointer none, .int .i64 0]) ∧ w = w' := by
  have := may_any w db mb d lo N S none Ap np cp ps false h
  rwa [hd, if_neg (show ¬ (false = true) from by decide), if_neg (by simp)] at this
theorem may_file (w : World) (there : Bool) {fb : Nat} (h : Dk w db mb d lo N S (some fb) Ap np cp ps) (hd : d.down = false) :
    Calls Try.prog 28 #[.pointer (some ⟨db, 0, none⟩), .string tl, .bool there] w fun e w' => e = .returned (.tuple #[.pointer (some ⟨fb, 0, none⟩), .int .i64 0]) ∧ w = w' := by
  have := may_any w db mb d lo N S (some fb) Ap np cp ps there h
  rwa [hd, if_neg (show ¬ (false = true) from by decide), if_neg (by simp)] at this
theorem Dk.gone (h : Dk w db mb d lo N S none Ap np cp ps) : d.f = none := by
  rcases h.file with ⟨_, q⟩ | ⟨_, _, _, _, _, _, q, _, _, _⟩
  · exact q
  · cases q
theorem Dk.fat {fb : Nat} (h : Dk w db mb d lo N S (some fb) Ap np cp ps) : ∃ f An cn As cs, d.f = some f ∧ FileAt w S fb f An cn As cs ∧ (∀ p ∈ ps, Apart An p.2) := by
  rcases h.file with ⟨q, _⟩ | ⟨fb', f, An, cn, As, cs, q, q1, hf, hf'⟩
  · cases q
  · injection q with q
    subst q
    exact ⟨f, An, cn, As, cs, q1, hf, hf'⟩
theorem FileAt.cells {fb : Nat} {f : Fl} {An : Option Addr} {cn : Nat} {As : Option Addr} {cs : Nat} (h : FileAt w S fb f An cn As cs) : w.cell? ⟨fb, 0, none⟩ = some (.slice An f.now.length cn) ∧ w.cell? ⟨fb, 1, none⟩ = some (.slice As f.safe.length cs) ∧ w.cell? ⟨fb, 2, none⟩ = some (.bool f.sure) :=
  ⟨cell_of_row _ _ 0 _ 65 (0, 0) h.head, cell_of_row _ _ 1 _ 65 (0, 0) h.head, cell_of_row _ _ 2 _ 65 (0, 0) h.head⟩
theorem FileAt.froz {fb : Nat} {f : Fl} {An : Option Addr} {cn : Nat} {As : Option Addr} {cs : Nat} (h : FileAt w S fb f An cn As cs) (j : Nat) : w.frozen? ⟨fb, j, none⟩ = false := by
  unfold World.frozen?
  rw [h.head]
  simp
def Dv.size (d : Dv) : Int := if d.down = true then -1 else match d.f with | none => -1 | some f => f.now.length
theorem Size_any (w : World) (h : Dk w db mb d lo N S F Ap np cp ps) :
    Calls Try.prog 10 #[.pointer (some ⟨db, 0, none⟩), .string tl] w fun e w' => e = .returned (.int .i64 d.size) ∧ w = w' := by
  cases hd : d.down with
  | true =>
    have hm := may_down w true h hd
    have q : d.size = -1 := by simp [Dv.size, hd]
    rw [q]
    clear h q
    go_enter Try.func10, Try.ntmps10
    go_wp2_with fail
    refine hm.mono ?_
    rintro e w1 ⟨rfl, rfl⟩
    clear hm
    go_wp2_with fail
    go_ret
    exact ⟨rfl, rfl⟩
  | false =>
    cases F with
    | none =>
      have hm := may_gone w h hd
      have q : d.size = -1 := by simp [Dv.size, hd, h.gone]
      rw [q]
      clear q h
      go_enter Try.func10, Try.ntmps10
      go_wp2_with fail
      refine hm.mono ?_
      rintro e w1 ⟨rfl, rfl⟩
      clear hm
      go_wp2_with fail
      go_ret
      exact ⟨rfl, rfl⟩
    | some fb =>
      have hm := may_file w true h hd
      obtain ⟨f, An, cn, As, cs, q1, hf, _⟩ := h.fat
      have q : d.size = f.now.length := by simp [Dv.size, hd, q1]
      rw [q]
      obtain ⟨c0, _, _⟩ := hf.cells
      clear q q1 hf h
      generalize f.now.length = nl at *
      go_enter Try.func10, Try.ntmps10
      go_wp2_with fail
      refine hm.mono ?_
      rintro e w1 ⟨rfl, rfl⟩
      clear hm
      go_wp2_with fail
      go_ret
      exact ⟨rfl, rfl⟩
end
end Go.Proofs.Ytlplhllcohoeaaa
