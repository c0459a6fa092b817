/-
  What sort.Slice leaves of a row of ranges of the call's own, called as ranges.Normal calls it: the same ranges, by their beginnings.
-/
import Derived.Test.YtobeppeadkoieaaRWalkb
import Derived.Test.YtobeppeadkoieaaRShelf
import Derived.Shelf.SlSortFuncK.WholeK
namespace Go.Proofs.Ytobeppeadkoieaa.Rg
open Go.RowKit
noncomputable def svT : TypeInfo := (Try.prog.info? 36).get (by kernel_rfl)
noncomputable def svE : TypeInfo := (Try.prog.info? 63).get (by kernel_rfl)
theorem svK (n : Nat) (h2 : 2 ≤ n) : Lib.swapperK n svE 25 = 9 := by
  have a : svE.hasPointers = false := by kernel_rfl
  have b : svE.bytes = 16 := by kernel_rfl
  have c : (n == 0) = false := by simp; omega
  have d : (n == 1) = false := by simp; omega
  simp [Lib.swapperK, a, b, c, d]
def encR (p : R) : List Value := [.int .i64 p.1, .int .i64 p.2]
def ltR (a b : R) : Bool := decide (a.1 < b.1)
theorem swo_ltR : Sort.SWO ltR where
  irrefl := fun x => by simp [ltR]
  trans := fun x y z h1 h2 => by simp [ltR] at *; omega
  ntrans := fun x y z h1 h2 => by simp [ltR] at *; omega
set_option maxHeartbeats 2000000 in
theorem less_any (blk off c Bs size : Nat) (W : World) (G : Nat → Int) (hs : W.cell? ⟨Bs, 0, none⟩ = some (.slice (some ⟨blk, off, none⟩) size c))
    (hc : ∀ t, t < size → W.cell? ⟨blk, off + t * 2, none⟩ = some (.int .i64 (G t))) (i j : Nat) (hi : i < size) (hj : j < size) (_hsz : size < 4611686018427387904) :
    Calls Try.prog 39 #[.int .i64 i, .int .i64 j, .pointer (some ⟨Bs, 0, none⟩)] W fun e w' => e = .returned (.bool (decide (G i < G j))) ∧ ∃ q, w' = W.drewN q := by
  have ci := hc i hi
  have cj := hc j hj
  go_enter Try.func39, Try.ntmps39
  go_wp2
  go_quiet (fail)
  go_wp2
  go_ret
  exact ⟨rfl, nq, rfl⟩
theorem below_grow (B : Nat) (w : World) (os : Array Obj) (hB : B ≤ w.heap.size) : Below B w (Sort.grow w os) :=
  ⟨rfl, rfl, rfl, by rw [Sort.size_grow]; omega, fun k hk => Sort.heap_grow_old w os (by omega)⟩
theorem below_put (B : Nat) (w : World) (n blk off : Nat) (d : Array R) (hB : B ≤ blk) : Below B w (Sort.putRowK encR 2 (Sort.ahead w n) blk off d) := by
  refine ⟨rfl, rfl, rfl, by rw [Sort.size_putRowK]; exact Nat.le_refl _, fun k hk => ?_⟩
  show ((Sort.ahead w n).heap.modify blk _)[k]? = _
  rw [Array.getElem?_modify, if_neg (by omega)]; rfl
theorem holds_own {w : World} {base g n c : Nat} {l : List R} (h : Own w base (some ⟨g, 0, Option.none⟩) n c l) : Sort.HoldsK encR 2 w g 0 l.toArray := by
  intro j hj
  rw [Sort.size_flatK] at hj
  rw [Sort.get_flatK _ _ _ _ hj]
  have hl := h.1
  simp only [List.size_toArray] at hj
  obtain ⟨s, hs⟩ := get_some l (j / 2) (by omega)
  obtain ⟨c0, c1⟩ := cells_get l _ s hs
  have e : l.toArray[j / 2]! = s := by rw [List.getElem!_toArray, List.getElem!_eq_getElem?_getD, hs]; rfl
  rw [e, Nat.zero_add]
  refine ⟨?_, h.2.frozenAt _⟩
  rw [h.2.cellAt _ (by omega)]
  rcases Nat.mod_two_eq_zero_or_one j with hm | hm
  · rw [show j / 2 * 2 = j by omega] at c0
    rw [c0, hm]; rfl
  · rw [show j / 2 * 2 + 1 = j by omega] at c1
    rw [c1, hm]; rfl
theorem rd_holds {w : World} {g : Nat} {d : Array R} (h : Sort.HoldsK encR 2 w g 0 d) (hg : g < w.heap.size) : Rd w w.heap.size (some ⟨g, 0, none⟩) d.toList := by
  intro k s hs
  obtain ⟨hk, e⟩ := List.getElem?_eq_some_iff.1 hs
  have hk' : k < d.size := by simpa using hk
  have e' : d[k]! = s := by rw [getElem!_pos d k hk']; simpa using e
  have h0 := (h.cell (i := k) (c := 0) hk' (by omega)).1
  have h1 := (h.cell (i := k) (c := 1) hk' (by omega)).1
  rw [e'] at h0 h1
  exact ⟨g, 0, rfl, hg, h0, h1⟩
theorem sort_any (w : World) (B0 : Nat) (A : Option Addr) (n c : Nat) (l : List R) (hB : B0 < w.heap.size) (hc : w.cell? ⟨B0, 0, none⟩ = some (.slice A n c)) (hown : Own w (B0 + 1) A n c l) (hn : n < 4611686018427387904) :
    Calls Try.prog 38 #[.iface 36 (.slice A n c), .func (.func 39) #[] #[.pointer (some ⟨B0, 0, none⟩)]] w fun e w' =>
      e = .returned (.tuple #[]) ∧ (∃ d : List R, d.Perm l ∧ d.Pairwise (fun a b => a.1 ≤ b.1) ∧ Rd w' w'.heap.size A d) ∧ Below (B0 + 1) w w' := by
  by_cases h2 : 2 ≤ n
  · obtain ⟨g, rfl, hg1, hg2, _⟩ := hown.form (by omega)
    have hl := hown.1
    have hH := holds_own hown
    have hs : l.toArray.size = n := by simpa using hl
    have hless : LessReadsK Try.prog 39 #[.pointer (some ⟨B0, 0, none⟩)] encR 2 ltR g 0 l.toArray.size w := by
      intro m os dk hs' i j hi hj
      have e : sortWorldK encR 2 w g 0 m dk os = Sort.putRowK encR 2 (Sort.grow (Sort.ahead w m) os) g 0 dk := by
        unfold sortWorldK; rw [Sort.putRowK_grow _ _ (Sort.ahead w m) _ g 0 _ hg2]
      have hHg : Sort.HoldsK encR 2 (Sort.grow (Sort.ahead w m) os) g 0 l.toArray := Sort.holdsK_grow _ _ _ _ g 0 _ hg2 (Sort.holdsK_ahead _ _ _ _ _ _ _ hH)
      refine less_any g 0 c B0 l.toArray.size _ (fun t => dk[t]!.1) ?_ (fun t ht => ?_) i j hi hj (by omega)
      · rw [e, Sort.cell?_putRowK_other _ _ _ g 0 dk _ (by show B0 ≠ g; omega), Sort.cell?_grow _ _ _ (by exact hB), hs]; exact hc
      · rw [e]; exact ((Sort.holdsK_putRowK _ _ _ g 0 _ dk hHg hs').cell (i := t) (c := 0) (by omega) (by omega)).1
    have hS := Any.sort_Slice_cells_sorted Try.sl6 36 63 svT svE (by kernel_rfl) (by kernel_rfl) (by kernel_rfl) (by kernel_rfl) 25 (fun _ => by kernel_rfl) encR 2 (fun _ => rfl) (by kernel_rfl) (fun _ => by kernel_rfl)
      (fun x v hv => by simp [encR] at hv; rcases hv with rfl | rfl <;> rfl) ltR swo_ltR 39 _
      (enters_of Try.func39 (by kernel_rfl) rfl) g 0 c l.toArray (by omega) (by omega) 66 (by rw [svK _ (by omega)]; kernel_rfl) false
      (fun args W => run_callFunc_extern Try.func66 (by kernel_rfl) (by kernel_rfl) (by kernel_rfl) (e := Extern.ReflectliteSwapper.swap false) (by kernel_rfl) args W) w hless hH hg2
    change Calls Try.prog 38 _ _ _ at hS
    rw [hs] at hS
    refine hS.mono ?_
    rintro e w' ⟨rfl, d', nd, os, ⟨p1, _, p3⟩, hso, rfl⟩
    have hd : d'.size = n := p1.trans hs
    have e1 : l.toArray.extract 0 n = l.toArray := by rw [← hs]; exact Array.extract_size
    have e2 : d'.extract 0 n = d' := by rw [← hd]; exact Array.extract_size
    rw [e1, e2] at p3
    have hg3 : g < (Sort.putRowK encR 2 (Sort.ahead w nd) g 0 d').heap.size := by rw [Sort.size_putRowK]; exact hg2
    refine ⟨rfl, ⟨d'.toList, by simpa using p3, ?_, ?_⟩, (below_put (B0+1) w nd g 0 d' (by omega)).trans (below_grow _ _ _ (by omega))⟩
    · rw [List.pairwise_iff_getElem]
      intro i j hi hj hij
      simp only [Array.length_toList] at hi hj
      have := hso i j (Nat.zero_le _) hij (by omega)
      simp only [ltR, getElem!_pos d' i hi, getElem!_pos d' j hj, decide_eq_false_iff_not] at this
      simp only [Array.getElem_toList]
      omega
    · refine rd_holds (Sort.holdsK_grow _ _ _ _ g 0 _ hg3 (Sort.holdsK_putRowK _ _ _ g 0 l.toArray d' (Sort.holdsK_ahead _ _ _ _ _ _ _ hH) (by omega))) ?_
      rw [Sort.size_grow]; omega
  · have hK : Lib.swapperK n svE 25 = n + 1 := by
      rcases Nat.eq_zero_or_pos n with h | h
      · subst h; simp [Lib.swapperK]
      · obtain rfl : n = 1 := by omega
        simp [Lib.swapperK]
    have hS := Any.sort_Slice_tiny Try.sl6 36 63 svT svE (by kernel_rfl) (by kernel_rfl) (by kernel_rfl) (by kernel_rfl) 25 (fun _ => by kernel_rfl) A n c (by omega) (58 + n) (by
      rw [hK]
      rcases Nat.eq_zero_or_pos n with h | h
      · subst h; kernel_rfl
      · obtain rfl : n = 1 := by omega
        kernel_rfl) (.func 39) #[] #[.pointer (some ⟨B0, 0, none⟩)] w
    change Calls Try.prog 38 _ _ _ at hS
    refine hS.mono ?_
    rintro e w' ⟨rfl, os, rfl⟩
    refine ⟨rfl, ⟨l, List.Perm.refl _, ?_, ?_⟩, below_grow _ _ _ (by omega)⟩
    · have := hown.1
      match l, this with
      | [], _ => exact List.Pairwise.nil
      | [x], _ => exact List.pairwise_singleton _ _
      | x :: y :: r, h => simp at h; omega
    · exact hown.rd.up (below_grow _ w os (Nat.le_refl _))
end Go.Proofs.Ytobeppeadkoieaa.Rg
