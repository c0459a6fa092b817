/-
  RC: texts of one kind, one behind the other.
-/
import Derived.Shelf.GgSortFunc.Tiny
import Derived.Test.YteceephenfmdoaaChecked
import Derived.Test.YteceephenfmdoaaRB
import Derived.Shelf.SlSortFuncK.WholeK
import Derived.BigRegion
import Derived.Test.YteceephenfmdoaaRA
/-
  DERIVED: THE SHELF's CONTRACTS AT THIS DUMP, IN PLAIN WORDS (tools/lay-plain.mjs out of 'YteceephenfmdoaaRLay.lean', which tools/lay-shelf.mjs wrote): THE SAME DECLARATIONS UNDER THE SAME NAMES: 'import', 'namespace', 'open', 'def', 'theorem' AND NOTHING ELSE: no command of the shelf's: FOR A HAND-IN. Each laying: the table of numbers ('.._ren') and one theorem, a field a fact of the dump's own or the kernel's comparison; each contract: ONE APPLICATION.
-/
namespace Go.Proofs
open Go.Shelf
def Try.sl6_ren : Go.Shelf.Ren := ⟨fun | 6 => 72 | 10 => 75 | 11 => 76 | 12 => 77 | 13 => 78 | 14 => 79 | 24 => 89 | 25 => 90 | 26 => 91 | 27 => 92 | 28 => 93 | 29 => 94 | 30 => 95 | 31 => 96 | 32 => 97 | 33 => 98 | 34 => 99 | 35 => 100 | 36 => 101 | 37 => 102 | 38 => 103 | 39 => 104 | n => n, fun | 20 => 20 | 26 => 108 | 35 => 114 | 0 => 0 | 37 => 116 | 3 => 3 | 41 => 120 | 44 => 123 | 49 => 128 | 51 => 130 | 4 => 4 | 54 => 133 | 53 => 132 | 58 => 137 | 5 => 5 | 9 => 9 | 60 => 139 | 64 => 143 | 66 => 145 | 67 => 146 | 17 => 17 | 32 => 111 | 33 => 112 | 82 => 161 | 12 => 12 | 75 => 154 | 76 => 155 | 77 => 156 | 78 => 157 | 79 => 158 | 80 => 159 | n => n, fun | n => n⟩
theorem Try.sl6 : Go.Proofs.LaysGg.n6 Try.prog Try.sl6_ren := {
  mixed := by kernel_rfl
  f6 := Try.func72.trans (congrArg some (by kernel_rfl))
  f10 := Try.func75.trans (congrArg some (by kernel_rfl))
  f11 := Try.func76.trans (congrArg some (by kernel_rfl))
  f12 := Try.func77.trans (congrArg some (by kernel_rfl))
  f13 := Try.func78.trans (congrArg some (by kernel_rfl))
  f14 := Try.func79.trans (congrArg some (by kernel_rfl))
  f24 := Try.func89.trans (congrArg some (by kernel_rfl))
  f25 := Try.func90.trans (congrArg some (by kernel_rfl))
  f26 := Try.func91.trans (congrArg some (by kernel_rfl))
  f27 := Try.func92.trans (congrArg some (by kernel_rfl))
  f28 := Try.func93.trans (congrArg some (by kernel_rfl))
  f29 := Try.func94.trans (congrArg some (by kernel_rfl))
  f30 := Try.func95.trans (congrArg some (by kernel_rfl))
  f31 := Try.func96.trans (congrArg some (by kernel_rfl))
  f32 := Try.func97.trans (congrArg some (by kernel_rfl))
  f33 := Try.func98.trans (congrArg some (by kernel_rfl))
  f34 := Try.func99.trans (congrArg some (by kernel_rfl))
  f35 := Try.func100.trans (congrArg some (by kernel_rfl))
  f36 := Try.func101.trans (congrArg some (by kernel_rfl))
  f37 := Try.func102.trans (congrArg some (by kernel_rfl))
  f38 := Try.func103.trans (congrArg some (by kernel_rfl))
  f39 := Try.func104.trans (congrArg some (by kernel_rfl))
  t0 := Try.underlying0
  a0 := Try.isAgg0
  z0 := Try.sizeOf0
  v0 := Try.zeroValue0
  i0 := by kernel_rfl
  t3 := Try.underlying3
  a3 := Try.isAgg3
  z3 := Try.sizeOf3
  v3 := Try.zeroValue3
  i3 := by kernel_rfl
  t4 := Try.underlying4
  a4 := Try.isAgg4
  z4 := Try.sizeOf4
  v4 := Try.zeroValue4
  i4 := by kernel_rfl
  t5 := Try.underlying5
  a5 := Try.isAgg5
  z5 := Try.sizeOf5
  v5 := Try.zeroValue5
  i5 := by kernel_rfl
  t9 := Try.underlying9
  a9 := Try.isAgg9
  z9 := Try.sizeOf9
  v9 := Try.zeroValue9
  i9 := by kernel_rfl
  t12 := Try.underlying12
  a12 := Try.isAgg12
  z12 := Try.sizeOf12
  v12 := Try.zeroValue12
  i12 := by kernel_rfl
  t17 := Try.underlying17
  a17 := Try.isAgg17
  z17 := Try.sizeOf17
  v17 := Try.zeroValue17
  i17 := by kernel_rfl
  t20 := Try.underlying20
  a20 := Try.isAgg20
  z20 := Try.sizeOf20
  v20 := Try.zeroValue20
  i20 := by kernel_rfl
  t26 := Try.underlying108
  a26 := Try.isAgg108
  z26 := Try.sizeOf108
  v26 := Try.zeroValue108
  i26 := by kernel_rfl
  t32 := Try.underlying111
  a32 := Try.isAgg111
  z32 := Try.sizeOf111
  v32 := Try.zeroValue111
  i32 := by kernel_rfl
  t33 := Try.underlying112
  a33 := Try.isAgg112
  z33 := Try.sizeOf112
  v33 := Try.zeroValue112
  i33 := by kernel_rfl
  t35 := Try.underlying114
  a35 := Try.isAgg114
  z35 := Try.sizeOf114
  v35 := Try.zeroValue114
  i35 := by kernel_rfl
  t37 := Try.underlying116
  a37 := Try.isAgg116
  z37 := Try.sizeOf116
  v37 := Try.zeroValue116
  i37 := by kernel_rfl
  t41 := Try.underlying120
  a41 := Try.isAgg120
  z41 := Try.sizeOf120
  v41 := Try.zeroValue120
  i41 := by kernel_rfl
  t44 := Try.underlying123
  a44 := Try.isAgg123
  z44 := Try.sizeOf123
  v44 := Try.zeroValue123
  i44 := by kernel_rfl
  t49 := Try.underlying128
  a49 := Try.isAgg128
  z49 := Try.sizeOf128
  v49 := Try.zeroValue128
  i49 := by kernel_rfl
  t51 := Try.underlying130
  a51 := Try.isAgg130
  z51 := Try.sizeOf130
  v51 := Try.zeroValue130
  i51 := by kernel_rfl
  t53 := Try.underlying132
  a53 := Try.isAgg132
  z53 := Try.sizeOf132
  v53 := Try.zeroValue132
  i53 := by kernel_rfl
  t54 := Try.underlying133
  a54 := Try.isAgg133
  z54 := Try.sizeOf133
  v54 := Try.zeroValue133
  i54 := by kernel_rfl
  t58 := Try.underlying137
  a58 := Try.isAgg137
  z58 := Try.sizeOf137
  v58 := Try.zeroValue137
  i58 := by kernel_rfl
  t60 := Try.underlying139
  a60 := Try.isAgg139
  z60 := Try.sizeOf139
  v60 := Try.zeroValue139
  i60 := by kernel_rfl
  t64 := Try.underlying143
  a64 := Try.isAgg143
  z64 := Try.sizeOf143
  v64 := Try.zeroValue143
  i64 := by kernel_rfl
  t66 := Try.underlying145
  a66 := Try.isAgg145
  z66 := Try.sizeOf145
  v66 := Try.zeroValue145
  i66 := by kernel_rfl
  t67 := Try.underlying146
  a67 := Try.isAgg146
  z67 := Try.sizeOf146
  v67 := Try.zeroValue146
  i67 := by kernel_rfl
  t75 := Try.underlying154
  a75 := Try.isAgg154
  z75 := Try.sizeOf154
  v75 := Try.zeroValue154
  i75 := by kernel_rfl
  t76 := Try.underlying155
  a76 := Try.isAgg155
  z76 := Try.sizeOf155
  v76 := Try.zeroValue155
  i76 := by kernel_rfl
  t77 := Try.underlying156
  a77 := Try.isAgg156
  z77 := Try.sizeOf156
  v77 := Try.zeroValue156
  i77 := by kernel_rfl
  t78 := Try.underlying157
  a78 := Try.isAgg157
  z78 := Try.sizeOf157
  v78 := Try.zeroValue157
  i78 := by kernel_rfl
  t79 := Try.underlying158
  a79 := Try.isAgg158
  z79 := Try.sizeOf158
  v79 := Try.zeroValue158
  i79 := by kernel_rfl
  t80 := Try.underlying159
  a80 := Try.isAgg159
  z80 := Try.sizeOf159
  v80 := Try.zeroValue159
  i80 := by kernel_rfl
  t82 := Try.underlying161
  a82 := Try.isAgg161
  z82 := Try.sizeOf161
  v82 := Try.zeroValue161
  i82 := by kernel_rfl }
end Go.Proofs

/-
  What sort.Slice leaves of a row of ranges of the call's own, called as ranges.Normal calls it: the same ranges, by their beginnings.
-/
namespace Go.Proofs.Yteceephenfmdoaa
open Go.RowKit
noncomputable def svT : TypeInfo := (Try.prog.info? 29).get (by kernel_rfl)
noncomputable def svE : TypeInfo := (Try.prog.info? 67).get (by kernel_rfl)
theorem svK (n : Nat) (h2 : 2 ≤ n) : Lib.swapperK n svE 25 = 9 := by
  have a : svE.hasPointers = false := by kernel_rfl
  have b : svE.bytes = 16 := by kernel_rfl
  have c : (n == 0) = false := by simp; omega
  have d : (n == 1) = false := by simp; omega
  simp [Lib.swapperK, a, b, c, d]
def encR (p : R) : List Value := [.int .i64 p.1, .int .i64 p.2]
def ltR (a b : R) : Bool := decide (a.1 < b.1)
theorem swo_ltR : Sort.SWO ltR where
  irrefl := fun x => by simp [ltR]
  trans := fun x y z h1 h2 => by simp [ltR] at *; omega
  ntrans := fun x y z h1 h2 => by simp [ltR] at *; omega
set_option maxRecDepth 100000 in
set_option maxHeartbeats 2000000 in
theorem less_any (blk off c Bs size : Nat) (W : World) (G : Nat → Int) (hs : W.cell? ⟨Bs, 0, none⟩ = some (.slice (some ⟨blk, off, none⟩) size c))
    (hc : ∀ t, t < size → W.cell? ⟨blk, off + t * 2, none⟩ = some (.int .i64 (G t))) (i j : Nat) (hi : i < size) (hj : j < size) (_hsz : size < 4611686018427387904) :
    Calls Try.prog 73 #[.int .i64 i, .int .i64 j, .pointer (some ⟨Bs, 0, none⟩)] W fun e w' => e = .returned (.bool (decide (G i < G j))) ∧ ∃ q, w' = W.drewN q := by
  have ci := hc i hi
  have cj := hc j hj
  go_enter Try.func73, Try.ntmps73
  go_wp2
  go_quiet (fail)
  go_wp2
  go_ret
  exact ⟨rfl, nq, rfl⟩
theorem below_grow (B : Nat) (w : World) (os : Array Obj) (hB : B ≤ w.heap.size) : Below B w (Sort.grow w os) :=
  ⟨rfl, rfl, rfl, by rw [Sort.size_grow]; omega, fun k hk => Sort.heap_grow_old w os (by omega)⟩
theorem below_put (B : Nat) (w : World) (n blk off : Nat) (d : Array R) (hB : B ≤ blk) : Below B w (Sort.putRowK encR 2 (Sort.ahead w n) blk off d) := by
  refine ⟨rfl, rfl, rfl, by rw [Sort.size_putRowK]; exact Nat.le_refl _, fun k hk => ?_⟩
  show ((Sort.ahead w n).heap.modify blk _)[k]? = _
  rw [Array.getElem?_modify, if_neg (by omega)]; rfl
theorem holds_own {w : World} {base g n c : Nat} {l : List R} (h : Own w base (some ⟨g, 0, Option.none⟩) n c l) : Sort.HoldsK encR 2 w g 0 l.toArray := by
  intro j hj
  rw [Sort.size_flatK] at hj
  rw [Sort.get_flatK _ _ _ _ hj]
  have hl := h.1
  simp only [List.size_toArray] at hj
  obtain ⟨s, hs⟩ := get_some l (j / 2) (by omega)
  obtain ⟨c0, c1⟩ := cells_get l _ s hs
  have e : l.toArray[j / 2]! = s := by rw [List.getElem!_toArray, List.getElem!_eq_getElem?_getD, hs]; rfl
  rw [e, Nat.zero_add]
  refine ⟨?_, h.2.frozenAt _⟩
  rw [h.2.cellAt _ (by omega)]
  rcases Nat.mod_two_eq_zero_or_one j with hm | hm
  · rw [show j / 2 * 2 = j by omega] at c0
    rw [c0, hm]; rfl
  · rw [show j / 2 * 2 + 1 = j by omega] at c1
    rw [c1, hm]; rfl
theorem rd_holds {w : World} {g : Nat} {d : Array R} (h : Sort.HoldsK encR 2 w g 0 d) (hg : g < w.heap.size) : Rd w w.heap.size (some ⟨g, 0, none⟩) d.toList := by
  intro k s hs
  obtain ⟨hk, e⟩ := List.getElem?_eq_some_iff.1 hs
  have hk' : k < d.size := by simpa using hk
  have e' : d[k]! = s := by rw [getElem!_pos d k hk']; simpa using e
  have h0 := (h.cell (i := k) (c := 0) hk' (by omega)).1
  have h1 := (h.cell (i := k) (c := 1) hk' (by omega)).1
  rw [e'] at h0 h1
  exact ⟨g, 0, rfl, hg, h0, h1⟩
theorem sort_any (w : World) (B0 : Nat) (A : Option Addr) (n c : Nat) (l : List R) (hB : B0 < w.heap.size) (hc : w.cell? ⟨B0, 0, none⟩ = some (.slice A n c)) (hown : Own w (B0 + 1) A n c l) (hn : n < 4611686018427387904) :
    Calls Try.prog 72 #[.iface 29 (.slice A n c), .func (.func 73) #[] #[.pointer (some ⟨B0, 0, none⟩)]] w fun e w' =>
      e = .returned (.tuple #[]) ∧ (∃ d : List R, d.Perm l ∧ d.Pairwise (fun a b => a.1 ≤ b.1) ∧ Rd w' w'.heap.size A d) ∧ Below (B0 + 1) w w' := by
  by_cases h2 : 2 ≤ n
  · obtain ⟨g, rfl, hg1, hg2, _⟩ := hown.form (by omega)
    have hl := hown.1
    have hH := holds_own hown
    have hs : l.toArray.size = n := by simpa using hl
    have hless : LessReadsK Try.prog 73 #[.pointer (some ⟨B0, 0, none⟩)] encR 2 ltR g 0 l.toArray.size w := by
      intro m os dk hs' i j hi hj
      have e : sortWorldK encR 2 w g 0 m dk os = Sort.putRowK encR 2 (Sort.grow (Sort.ahead w m) os) g 0 dk := by
        unfold sortWorldK; rw [Sort.putRowK_grow _ _ (Sort.ahead w m) _ g 0 _ hg2]
      have hHg : Sort.HoldsK encR 2 (Sort.grow (Sort.ahead w m) os) g 0 l.toArray := Sort.holdsK_grow _ _ _ _ g 0 _ hg2 (Sort.holdsK_ahead _ _ _ _ _ _ _ hH)
      refine less_any g 0 c B0 l.toArray.size _ (fun t => dk[t]!.1) ?_ (fun t ht => ?_) i j hi hj (by omega)
      · rw [e, Sort.cell?_putRowK_other _ _ _ g 0 dk _ (by show B0 ≠ g; omega), Sort.cell?_grow _ _ _ (by exact hB), hs]; exact hc
      · rw [e]; exact ((Sort.holdsK_putRowK _ _ _ g 0 _ dk hHg hs').cell (i := t) (c := 0) (by omega) (by omega)).1
    have hS := Any.sort_Slice_cells_sorted Try.sl6 29 67 svT svE (by kernel_rfl) (by kernel_rfl) (by kernel_rfl) (by kernel_rfl) 25 (fun _ => by kernel_rfl) encR 2 (fun _ => rfl) (by kernel_rfl) (fun _ => by kernel_rfl)
      (fun x v hv => by simp [encR] at hv; rcases hv with rfl | rfl <;> rfl) ltR swo_ltR 73 _
      (enters_of Try.func73 (by kernel_rfl) rfl) g 0 c l.toArray (by omega) (by omega) 88 (by rw [svK _ (by omega)]; kernel_rfl) false
      (fun args W => run_callFunc_extern Try.func88 (by kernel_rfl) (by kernel_rfl) (by kernel_rfl) (e := Extern.ReflectliteSwapper.swap false) (by kernel_rfl) args W) w hless hH hg2
    change Calls Try.prog 72 _ _ _ at hS
    rw [hs] at hS
    refine hS.mono ?_
    rintro e w' ⟨rfl, d', nd, os, ⟨p1, _, p3⟩, hso, rfl⟩
    have hd : d'.size = n := p1.trans hs
    have e1 : l.toArray.extract 0 n = l.toArray := by rw [← hs]; exact Array.extract_size
    have e2 : d'.extract 0 n = d' := by rw [← hd]; exact Array.extract_size
    rw [e1, e2] at p3
    have hg3 : g < (Sort.putRowK encR 2 (Sort.ahead w nd) g 0 d').heap.size := by rw [Sort.size_putRowK]; exact hg2
    refine ⟨rfl, ⟨d'.toList, by simpa using p3, ?_, ?_⟩, (below_put (B0+1) w nd g 0 d' (by omega)).trans (below_grow _ _ _ (by omega))⟩
    · rw [List.pairwise_iff_getElem]
      intro i j hi hj hij
      simp only [Array.length_toList] at hi hj
      have := hso i j (Nat.zero_le _) hij (by omega)
      simp only [ltR, getElem!_pos d' i hi, getElem!_pos d' j hj, decide_eq_false_iff_not] at this
      simp only [Array.getElem_toList]
      omega
    · refine rd_holds (Sort.holdsK_grow _ _ _ _ g 0 _ hg3 (Sort.holdsK_putRowK _ _ _ g 0 l.toArray d' (Sort.holdsK_ahead _ _ _ _ _ _ _ hH) (by omega))) ?_
      rw [Sort.size_grow]; omega
  · have hK : Lib.swapperK n svE 25 = n + 1 := by
      rcases Nat.eq_zero_or_pos n with h | h
      · subst h; simp [Lib.swapperK]
      · obtain rfl : n = 1 := by omega
        simp [Lib.swapperK]
    have hS := Any.sort_Slice_tiny Try.sl6 29 67 svT svE (by kernel_rfl) (by kernel_rfl) (by kernel_rfl) (by kernel_rfl) 25 (fun _ => by kernel_rfl) A n c (by omega) (80 + n) (by
      rw [hK]
      rcases Nat.eq_zero_or_pos n with h | h
      · subst h; kernel_rfl
      · obtain rfl : n = 1 := by omega
        kernel_rfl) (.func 73) #[] #[.pointer (some ⟨B0, 0, none⟩)] w
    change Calls Try.prog 72 _ _ _ at hS
    refine hS.mono ?_
    rintro e w' ⟨rfl, os, rfl⟩
    refine ⟨rfl, ⟨l, List.Perm.refl _, ?_, ?_⟩, below_grow _ _ _ (by omega)⟩
    · have := hown.1
      match l, this with
      | [], _ => exact List.Pairwise.nil
      | [x], _ => exact List.pairwise_singleton _ _
      | x :: y :: r, h => simp at h; omega
    · exact hown.rd.up (below_grow _ w os (Nat.le_refl _))
end Go.Proofs.Yteceephenfmdoaa

/-
  What ranges.Normal answers: the right list of the same numbers; the list stays.
-/
namespace Go.Proofs.Yteceephenfmdoaa
open Go.RowKit
theorem clip_snoc (l : List R) (s : R) : clip (l ++ [s]) = clip l ++ (if max s.1 0 < s.2 then [(max s.1 0, s.2)] else []) := by
  unfold clip
  rw [List.map_append, List.filter_append]
  congr 1
  simp only [List.map_cons, List.map_nil, List.filter_cons, List.filter_nil, decide_eq_true_eq]
theorem grown_setCell (w : World) (a : Addr) (v : Value) : w.grownBy (w.setCell a v) (some a.block) := by
  have hb := (Below.refl 0 w).setCell (p := a) (Nat.zero_le _) v
  exact ⟨hb.os, hb.tape, hb.output, hb.size, fun k _ hne => Below.heap_setCell w a v k (fun e => hne (by rw [e]))⟩
theorem Own.setBeside {w : World} {base : Nat} {A : Option Addr} {n cap : Nat} {l : List R} (h : Own w base A n cap l) (a : Addr) (v : Value) (ha : a.block < base ∨ w.heap.size ≤ a.block) : Own (w.setCell a v) base A n cap l := by
  refine ⟨h.1, h.2.kept (grown_setCell w a v) (.inr fun hh => ?_)⟩
  have := h.2.lt a.block hh
  omega
/-- A boxed row of the call's own. -/
structure Bx (w : World) (B : Nat) (A : Option Addr) (n c : Nat) (l : List R) : Prop where
  cell : w.cell? ⟨B, 0, none⟩ = some (.slice A n c)
  fr : w.frozen? ⟨B, 0, none⟩ = false
  own : Own w (B+1) A n c l
  lt : B < w.heap.size
theorem mstep_nil (s : R) : mstep [] s = [s] := rfl
theorem mstep_yes (L : List R) (t s : R) (h : s.1 ≤ t.2) : mstep (L ++ [t]) s = L ++ [(t.1, max t.2 s.2)] := by
  unfold mstep
  simp [h]
theorem mstep_no (L : List R) (t s : R) (h : ¬ s.1 ≤ t.2) : mstep (L ++ [t]) s = L ++ [t] ++ [s] := by
  unfold mstep
  simp [h]
theorem snoc_cases {α : Type} (l : List α) : l = [] ∨ ∃ l' x, l = l' ++ [x] := by
  rcases List.eq_nil_or_concat l with rfl | ⟨l', x, rfl⟩
  · exact .inl rfl
  · exact .inr ⟨l', x, by rw [List.concat_eq_append]⟩
theorem clip_len (l : List R) : (clip l).length ≤ l.length := by unfold clip; exact Nat.le_trans (List.length_filter_le _ _) (by simp)
set_option maxRecDepth 100000 in
set_option maxHeartbeats 800000 in
theorem Normal_any (A : Option Addr) (len cap : Nat) (w : World) (l : List R) (hlen : l.length = len) (hr : Rd w w.heap.size A l) (hI : IR l) (hm : len ≤ 1099511627776) :
    Calls Try.prog 68 #[.slice A len cap] w fun e w' => (∃ A' n c, e = .returned (.slice A' n c) ∧ Own w' w.heap.size A' n c (nl l)) ∧ Below w.heap.size w w' := by
  obtain ⟨i0, hi, hz0, hz1, hz2⟩ := info_parts info29
  have H := Lib.hid hlen; have HR := Lib.hid hr; have HI := Lib.hid hI
  clear hlen hr hI
  go_enter Try.func68, Try.ntmps68
  go_wp2_with fail
  generalize hBB : w.heap.size = BB at *
  have HB := Lib.hid hBB; clear hBB
  go_loopw [12] (fun i wr => ∃ k n A' c, k ≤ len ∧ n ≤ k ∧ i = .int .i64 k ∧ Bx wr BB A' n c (clip (l.take k)) ∧ Below BB w wr) (fun i _ => len - (intOf i).toNat)
  case atStart =>
    obtain rfl := HB.out
    exact ⟨0, 0, Option.none, 0, Nat.zero_le _, Nat.le_refl _, rfl, ⟨cell_new _ _ _ 0, by unfold World.frozen?; rw [heap_alloc_new]; simp, Own.nil _ _, by simp⟩, (Below.refl _ _).alloc (Nat.le_refl _) _⟩
  case round =>
    obtain ⟨k, n, A', c, hk, hnk, rfl, hbx, hb⟩ := hrel
    have g0 := hbx.cell
    have gf := hbx.fr
    have gl := hbx.lt
    have hsz : BB ≤ wr.heap.size := by omega
    by_cases hlt : k < len
    · obtain ⟨s, hs⟩ := get_some l k (by have := H.out; omega)
      obtain ⟨b2, off2, rfl, hb2, c0, c1⟩ := HR.out.below hb (Nat.le_refl _) k s hs
      have HX := Lib.hid hbx; have HBel := Lib.hid hb
      have ht : clip (l.take (k+1)) = clip (l.take k) ++ (if max s.1 0 < s.2 then [(max s.1 0, s.2)] else []) := by rw [take_snoc l k s hs, clip_snoc]
      by_cases h1 : max s.1 0 < s.2
      · rw [if_pos h1] at ht
        have HT := Lib.hid ht
        clear hbx hb hs ht
        go_wp2_with (at_builtin; refine wpList_append_own _ rfl (.tmp 25) (.tmp 27) 29 rfl (BB+1) 67 i0 _ 2 16 Try.underlying29 hi hz0 hz1 hz2 rfl (by decide) _ _ _ rfl ((HX.out.own.alloc _).alloc _).2 ⟨wr.heap.size + 1, 0, none⟩ 1 1 (cells [(max s.1 0, s.2)]) rfl rfl (new_one _ (max s.1 0, s.2) _ (by simp)) (cells_one_cell _) (by unfold maxLen; omega) (by omega) (by simp; omega) ?_)
        intro v' w1 hown' hgrow _
        obtain ⟨⟨A'', c'', hv, hown2⟩, _, hst, hz3, _⟩ := appL_step (w := wr) HX.out.own (Below.refl _ _) (by omega) (((Below.refl _ _).alloc (Nat.le_refl _) _).alloc (by simp) _) (m := 1) (K := [(max s.1 0, s.2)]) rfl hown' hgrow
        have e0 : w1.cell? ⟨BB, 0, none⟩ = some (.slice A' n c) := (hst.cell (p := ⟨BB, 0, none⟩) (by show BB < BB + 1; omega)).trans g0
        have ef : w1.frozen? ⟨BB, 0, none⟩ = false := (hst.frozen (p := ⟨BB, 0, none⟩) (by show BB < BB + 1; omega)).trans gf
        have HO2 := Lib.hid hown2; have HST := Lib.hid hst
        rw [hv]
        clear hgrow hown' hv hown2 hst hz3
        go_wp2_with fail
        go_roundw
        case rel =>
          have h2 := HST.out.size
          refine ⟨k+1, n+1, A'', c'', by omega, by omega, by go_num, ⟨World.cell?_setCell_same _ _ _ e0, by rw [World.frozen?_setCell]; exact ef, ?_, by simp; omega⟩, ((HBel.out.trans (HST.out.mono (by omega))).setCell (Nat.le_refl BB) _)⟩
          rw [HT.out]
          exact HO2.out.setBeside _ _ (.inl (by show BB < BB + 1; omega))
        case measure => simp [intOf]; omega
      · rw [if_neg h1, List.append_nil] at ht
        have HT := Lib.hid ht
        clear hbx hb hs ht
        go_wp2_with fail
        go_roundw
        case rel =>
          refine ⟨k+1, n, A', c, by omega, by omega, by go_num, ⟨(World.cell?_alloc_lt _ _ _ gl).trans g0, ?_, by rw [HT.out]; exact HX.out.own.alloc _, by simp; omega⟩, HBel.out.alloc hsz _⟩
          exact ((Below.refl (BB+1) wr).alloc (by omega) _).frozen (p := ⟨BB, 0, none⟩) (by show BB < BB + 1; omega) |>.trans gf
        case measure => simp [intOf]; omega
    · obtain rfl : k = len := by omega
      have e2 : l.take k = l := by rw [List.take_of_length_le (Nat.le_of_eq H.out)]
      rw [e2] at hbx
      have HX := Lib.hid hbx; have HBel := Lib.hid hb
      clear hbx hb hlt e2
      go_wp2_with fail
      refine (sort_any wr BB A' n c (clip l) gl g0 HX.out.own (by omega)).mono ?_
      rintro e w1 ⟨rfl, ⟨d, hp, hs, hrd⟩, hst⟩
      have e0 : w1.cell? ⟨BB, 0, none⟩ = some (.slice A' n c) := (hst.cell (p := ⟨BB, 0, none⟩) (by show BB < BB + 1; omega)).trans g0
      have hdl : d.length = n := hp.length_eq.trans HX.out.own.1
      have hB1 : Below BB w w1 := HBel.out.trans (hst.mono (by omega))
      have HE := Lib.hid (nl_eq l d hp hs)
      have HP := Lib.hid (show ∀ r ∈ d, 0 ≤ r.1 ∧ r.1 < r.2 from fun r hr => clip_ok l r (hp.mem_iff.1 hr))
      have HS := Lib.hid hs
      have HD := Lib.hid hdl; have HRD := Lib.hid hrd; have HB1 := Lib.hid hB1
      have hi64 : ∀ r ∈ d, r.2 ≤ 9223372036854775807 := by
        intro r hr
        obtain ⟨h1, _⟩ := List.mem_filter.1 (show r ∈ clip l from hp.mem_iff.1 hr)
        obtain ⟨q, hq, rfl⟩ := List.mem_map.1 h1
        exact (HI.out q hq).2.2
      have HU := Lib.hid hi64
      clear hp hs hrd hst hdl hB1 hi64 HX HBel HR g0 gf gl
      generalize hS : w1.heap.size = SS at *
      have hSB : BB ≤ SS := by have := HB1.out.size; have := HB.out; omega
      have HSS := Lib.hid hS
      clear hS
      go_wp2_with fail
      go_loopw [6, 36] (fun v i wr => ∃ j m A2 c2, j ≤ n ∧ m ≤ j ∧ i = .int .i64 j ∧ v = .slice A2 m c2 ∧ Own wr SS A2 m c2 ((d.take j).foldl mstep []) ∧ Below SS w1 wr) (fun _ i _ => n - (intOf i).toNat)
      case atStart => exact ⟨0, 0, _, _, Nat.zero_le _, Nat.le_refl _, rfl, rfl, Own.nil _ _, Below.refl _ _⟩
      case round =>
        obtain ⟨j, m, A2, c2, hj, hmj, rfl, rfl, hown, hb⟩ := hrel
        have HO := Lib.hid hown; have HBel := Lib.hid hb
        have hs2 : SS ≤ wr.heap.size := by have := hb.size; have := HSS.out; omega
        by_cases hlt2 : j < n
        · obtain ⟨s, hs⟩ := get_some d j (by have := HD.out; omega)
          obtain ⟨b2, off2, rfl, hb2, c0, c1⟩ := HRD.out.below hb (Nat.le_refl _) j s hs
          have ht : (d.take (j+1)).foldl mstep [] = mstep ((d.take j).foldl mstep []) s := by rw [take_snoc d j s hs, List.foldl_append]; rfl
          have hp0 := HP.out s (List.mem_of_getElem? hs)
          have hu0 := HU.out s (List.mem_of_getElem? hs)
          have HT := Lib.hid ht
          have hJ := hown.1
          clear hs ht hown hb
          generalize (d.take j).foldl mstep [] = O at *
          rcases snoc_cases O with rfl | ⟨L, t, rfl⟩
          · obtain rfl : m = 0 := by simpa using hJ.symm
            clear hJ
            go_wp2_with fail
            go_quiet (fail)
            go_wp2_with (at_builtin; refine wpList_append_own _ rfl (.tmp 67) (.tmp 69) 29 rfl SS 67 i0 _ 2 16 Try.underlying29 hi hz0 hz1 hz2 rfl (by decide) _ _ _ rfl (((HO.out.alloc _).drewN nq).alloc _).2 ⟨wr.heap.size + 1, 0, none⟩ 1 1 (cells [s]) rfl rfl (new_one _ s _ (by simp)) (cells_one_cell _) (by unfold maxLen; omega) (by omega) (by simp; omega) ?_)
            intro v' w2 hown' hgrow _
            obtain ⟨⟨A'', c'', hv, hown2⟩, hb3, _, _, _⟩ := appL_step HO.out HBel.out hs2 ((belowDrewN ((Below.refl _ _).alloc (Nat.le_refl _) _) nq).alloc (by simp) _) (m := 1) (K := [s]) rfl hown' hgrow
            rw [hv]
            clear hgrow hown' hv
            go_wp2_with fail
            go_roundw
            case rel => exact ⟨j+1, 0+1, A'', c'', by omega, by omega, by go_num, rfl, by rw [HT.out, mstep_nil]; exact hown2, hb3⟩
            case measure => simp [intOf]; omega
          · obtain ⟨q, rfl⟩ : ∃ q, m = q + 1 := ⟨L.length, by simpa using hJ.symm⟩
            obtain ⟨g, rfl, hg1, hg2, t0, t1, t2⟩ := HO.out.last
            clear hJ
            by_cases hc : s.1 ≤ t.2
            · have HC := Lib.hid (mstep_yes L t s hc)
              go_wp2_with fail
              go_quiet (fail)
              go_wp2_with fail
              go_region
              go_wp2_with fail
              go_roundw
              case rel =>
                refine ⟨j+1, q+1, some ⟨g, 0, Option.none⟩, c2, by omega, by omega, by go_num, rfl, ?_, ?_⟩
                · rw [HT.out, HC.out]
                  exact ((HO.out.alloc _).drewN _).setLast _
                · exact (belowDrewN (HBel.out.alloc hs2 _) _).setCell hg1 _
              case measure => simp [intOf]; omega
            · have HC := Lib.hid (mstep_no L t s hc)
              go_wp2_with fail
              go_quiet (fail)
              go_wp2_with (at_builtin; refine wpList_append_own _ rfl (.tmp 67) (.tmp 69) 29 rfl SS 67 i0 _ 2 16 Try.underlying29 hi hz0 hz1 hz2 rfl (by decide) _ _ _ rfl (((HO.out.alloc _).drewN nq).alloc _).2 ⟨wr.heap.size + 1, 0, none⟩ 1 1 (cells [s]) rfl rfl (new_one _ s _ (by simp)) (cells_one_cell _) (by unfold maxLen; omega) (by omega) (by simp; omega) ?_)
              intro v' w2 hown' hgrow _
              obtain ⟨⟨A'', c'', hv, hown2⟩, hb3, _, _, _⟩ := appL_step HO.out HBel.out hs2 ((belowDrewN ((Below.refl _ _).alloc (Nat.le_refl _) _) nq).alloc (by simp) _) (m := 1) (K := [s]) rfl hown' hgrow
              rw [hv]
              clear hgrow hown' hv
              go_wp2_with fail
              go_roundw
              case rel => exact ⟨j+1, q+1+1, A'', c'', by omega, by omega, by go_num, rfl, by rw [HT.out, HC.out]; exact hown2, hb3⟩
              case measure => simp [intOf]; omega
        · obtain rfl : j = n := by omega
          have e3 : d.take j = d := by rw [List.take_of_length_le (Nat.le_of_eq HD.out)]
          rw [e3, HE.out] at hown
          have HO := Lib.hid hown
          clear hown hb hlt2 e3
          go_wp2_with fail
          go_ret
          obtain rfl := HB.out
          exact ⟨⟨_, _, _, rfl, HO.out.mono hSB⟩, HB1.out.trans (HBel.out.mono hSB)⟩
end Go.Proofs.Yteceephenfmdoaa

/-
  What ranges.Total, Fit and Either answer.
-/
namespace Go
theorem wpList_append_any {P : Program} {w : World} {ops : Array Oper} {rest : List Oper} {o : Oper} {a : Act} {Q : Exit → Act → World → Prop} (hgd : o.guard = none) (s x : Operand) (t : TypeId)
    (ho : o.op = .call { callee := .builtin .append, args := #[s, x], argTypes := #[t, t] })
    (base : Nat) (e : TypeId) (i : TypeInfo) (z : Value) (size bytes : Nat) (ht : P.underlying t = some (.slice e)) (hi : P.info? e = some i) (hz : i.zero = some z)
    (hsize : i.size = size) (hby : i.bytes = bytes) (hzs : z.cells.size = size) (hsz : 0 < size)
    (v : Value) (n : Nat) (xs : List Value) (hs : a.eval s = v) (hown : w.ownsRow base e size v n xs)
    (A : Option Addr) (m c : Nat) (news : List Value) (hx : a.eval x = .slice A m c) (hnone : A = none → m = 0 ∧ c = 0) (hl : news.length = m * size) (hnews : ∀ ad, A = some ad → ∀ j u, news[j]? = some u → w.cell? (ad.add j) = some u) (h1 : ∀ u ∈ news, u.oneCell' = true)
    (h63 : n + m ≤ maxLen) (hbytes : (n + m) * bytes ≤ 140737488355328) (hbase : base ≤ w.heap.size)
    (h : ∀ v' w', w'.ownsRow base e size v' (n + m) (xs ++ news) → w.grownBy w' v.ownBlock → wpList P ops Q rest (a.put o.dst v') w') : wpList P ops Q (o :: rest) a w := by
  cases A with
  | none =>
    obtain ⟨rfl, rfl⟩ := hnone rfl
    have hn : news = [] := List.eq_nil_of_length_eq_zero (by simpa using hl)
    subst hn
    refine wpList_append_own_none hgd s x t ho base e i size ht hi v n xs hs hown hx (h v w ?_ (World.grownBy.refl _ _))
    simpa using hown
  | some ad =>
    exact wpList_append_own w hgd s x t ho base e i z size bytes ht hi hz hsize hby hzs hsz v n xs hs hown ad m c news hx hl (hnews ad rfl) h1 h63 hbytes hbase (fun v' w' h1 h2 _ => h v' w' h1 h2)
end Go
namespace Go.Proofs.Yteceephenfmdoaa
open Go.RowKit
theorem right_take {l : List R} (h : Right l) (k : Nat) : Right (l.take k) := by
  have e : l = l.take k ++ l.drop k := (List.take_append_drop ..).symm
  unfold Right at *
  rw [e, right_append] at h
  exact h.1
theorem nn_take {l : List R} (h : Nn l) (k : Nat) : Nn (l.take k) := fun r hr => h r (List.mem_of_mem_take hr)
set_option maxRecDepth 100000 in
theorem Total_any (A : Option Addr) (len cap : Nat) (w : World) (l : List R) (hlen : l.length = len) (hr : Rd w w.heap.size A l) (hI : IR l) (hm : len ≤ 1099511627776) :
    Calls Try.prog 54 #[.slice A len cap] w fun e w' => e = .returned (.int .i64 (tot (nl l))) ∧ Below w.heap.size w w' := by
  have H := Lib.hid hlen; have HR := Lib.hid hr; have HI := Lib.hid hI
  clear hlen hr hI
  go_enter Try.func54, Try.ntmps54
  go_wp2_with fail
  refine (Normal_any A len cap _ l H.out HR.out HI.out hm).mono ?_
  rintro e w1 ⟨⟨A', n, c, rfl, hown⟩, hb⟩
  have hl := hown.1
  have hn : n ≤ 1099511627776 := by have := nl_len l; have := H.out; omega
  have hrd := Lib.hid hown.rd
  have HO := Lib.hid hown; have HB := Lib.hid hb; have HL := Lib.hid hl
  have HN := Lib.hid (nl_nn HI.out)
  have HT := Lib.hid (nl_is l).1
  clear hown hb hl H HR HI
  go_wp2_with fail
  go_loopw [3, 9] (fun t i wr => ∃ k : Nat, k ≤ n ∧ i = .int .i64 k ∧ t = .int .i64 (tot ((nl l).take k)) ∧ Below w1.heap.size w1 wr) (fun _ i _ => n - (intOf i).toNat)
  case atStart => exact ⟨0, Nat.zero_le _, rfl, rfl, Below.refl _ _⟩
  case round =>
    obtain ⟨k, hk, rfl, rfl, hb⟩ := hrel
    by_cases hlt : k < n
    · obtain ⟨s, hs⟩ := get_some (nl l) k (by have := HL.out; omega)
      obtain ⟨b, off, rfl, hb', h0, h1⟩ := hrd.out.below hb (Nat.le_refl _) k s hs
      obtain ⟨s0, s1, s2⟩ := HN.out s (List.mem_of_getElem? hs)
      have e1 : tot ((nl l).take (k+1)) = tot ((nl l).take k) + (s.2 - s.1) := by rw [take_snoc (nl l) k s hs, tot_snoc]
      obtain ⟨q0, q1⟩ := tot_bound (right_take HT.out k) (nn_take HN.out k)
      obtain ⟨q2, q3⟩ := tot_bound (right_take HT.out (k+1)) (nn_take HN.out (k+1))
      rw [e1] at q2 q3
      have E1 := Lib.hid e1
      clear hs e1
      generalize tot ((nl l).take k) = T at *
      go_wp2_with fail
      go_roundw
      case rel => exact ⟨k+1, by omega, by go_num, by rw [E1.out], hb.alloc hb.size _⟩
      case measure => simp [intOf]; omega
    · obtain rfl : k = n := by omega
      clear hlt
      have e2 : tot ((nl l).take k) = tot (nl l) := by rw [List.take_of_length_le (Nat.le_of_eq HL.out)]
      have E2 := Lib.hid e2
      clear e2
      go_wp2_with fail
      go_ret
      exact ⟨ret_int E2.out, below_up HB.out hb⟩
theorem fit_stop {m : List R} {k : Nat} {s : R} (hs : m[k]? = some s) {n : Int} (h : ∀ r ∈ m.take k, r.2 - r.1 < n) (h0 : n ≤ s.2 - s.1) : fitL m n = some s.1 := by
  obtain ⟨hk, e⟩ := List.getElem?_eq_some_iff.1 hs
  have e1 : m = m.take k ++ s :: m.drop (k+1) := by rw [← e, ← List.drop_eq_getElem_cons hk, List.take_append_drop]
  have e2 : (m.take k).find? (fun r => decide (n ≤ r.2 - r.1)) = none := by
    rw [List.find?_eq_none]
    intro r hr
    have := h r hr
    simp; omega
  unfold fitL
  rw [e1, List.find?_append, e2]
  simp [h0]
theorem fit_end {m : List R} {n : Int} (h : ∀ r ∈ m, r.2 - r.1 < n) : fitL m n = none := by
  unfold fitL
  rw [Option.map_eq_none_iff, List.find?_eq_none]
  intro r hr
  have := h r hr
  simp; omega
/-- What Fit answers. -/
def fitE : Option Int → Ending
  | none => .returned (.tuple #[.int .i64 0, .bool false])
  | some a => .returned (.tuple #[.int .i64 a, .bool true])
theorem Own.lit (w : World) (base : Nat) (hb : base ≤ w.heap.size) : Own (w.alloc (.cells #[] 67)) base (some ⟨w.heap.size, 0, Option.none⟩) 0 0 [] :=
  ⟨rfl, by simpa [cells] using World.ownsRow_lit (size := 2) (e := 67) w #[] 0 hb (by unfold maxLen; omega) rfl⟩
set_option maxRecDepth 100000 in
theorem Either_any (A : Option Addr) (len cap : Nat) (A2 : Option Addr) (len2 cap2 : Nat) (w : World) (l m : List R) (hlen : l.length = len) (hr : Rd w w.heap.size A l) (hI : IR l) (hno : A = none → len = 0 ∧ cap = 0)
    (hlen2 : m.length = len2) (hr2 : Rd w w.heap.size A2 m) (hI2 : IR m) (hno2 : A2 = none → len2 = 0 ∧ cap2 = 0) (hm : len ≤ 1000000) (hm2 : len2 ≤ 1000000) :
    Calls Try.prog 63 #[.slice A len cap, .slice A2 len2 cap2] w fun e w' => (∃ A' n c, e = .returned (.slice A' n c) ∧ Own w' w.heap.size A' n c (eitherR l m)) ∧ Below w.heap.size w w' := by
  obtain ⟨i0, hi, hz0, hz1, hz2⟩ := info_parts info29
  have H := Lib.hid hlen; have HR := Lib.hid hr; have HI := Lib.hid hI; have HN := Lib.hid hno
  have H2 := Lib.hid hlen2; have HR2 := Lib.hid hr2; have HI2 := Lib.hid hI2; have HN2 := Lib.hid hno2
  clear hlen hr hI hno hlen2 hr2 hI2 hno2
  go_enter Try.func63, Try.ntmps63
  go_wp2_with (at_builtin; refine wpList_append_any rfl (.tmp 5) (.tmp 6) 29 rfl w.heap.size 67 i0 _ 2 16 Try.underlying29 hi hz0 hz1 hz2 rfl (by decide) _ _ _ rfl (Own.lit w w.heap.size (Nat.le_refl _)).2 A len cap (cells l) rfl HN.out (by rw [cells_len, H.out]) (HR.out.alloc (Nat.le_refl _) _).cells' (cells_one_cell _) (by unfold maxLen; omega) (by omega) (by simp) ?_)
  intro v' w1 hown' hgrow
  have hown'' : w1.ownsRow w.heap.size 67 2 v' (0 + len) (cells [] ++ cells l) := by rw [Nat.zero_add]; exact hown'
  obtain ⟨⟨A5, c5, hv, hown5⟩, hbb, _, _, _⟩ := appL_step (w := w.alloc (.cells #[] 67)) (Own.lit w w.heap.size (Nat.le_refl _)) (Below.refl _ _) (by simp) (Below.refl _ _) H.out hown'' hgrow
  rw [Nat.zero_add, List.nil_append] at hown5
  rw [Nat.zero_add] at hv
  have hB1 : Below w.heap.size w w1 := ((Below.refl _ _).alloc (Nat.le_refl _) _).trans hbb
  have HO5 := Lib.hid hown5
  have HBB := Lib.hid hB1
  have hsz := hB1.size
  rw [hv]
  clear hown' hown'' hgrow hv hown5 hbb hB1
  go_wp2_with (at_builtin; refine wpList_append_any rfl (.tmp 7) (.tmp 8) 29 rfl w.heap.size 67 i0 _ 2 16 Try.underlying29 hi hz0 hz1 hz2 rfl (by decide) _ _ _ rfl HO5.out.2 A2 len2 cap2 (cells m) rfl HN2.out (by rw [cells_len, H2.out]) (HR2.out.below HBB.out (Nat.le_refl _)).cells' (cells_one_cell _) (by unfold maxLen; omega) (by omega) (by omega) ?_)
  intro v' w2 hown' hgrow
  obtain ⟨⟨A6, c6, hv, hown6⟩, hbb, _, _, _⟩ := appL_step HO5.out HBB.out hsz (Below.refl _ _) H2.out hown' hgrow
  have HO6 := Lib.hid hown6
  have HB6 := Lib.hid hbb
  have hs6 := hbb.size
  rw [hv]
  clear hown' hgrow hv hown6 hbb
  go_wp2_with fail
  refine (Normal_any A6 (len + len2) c6 _ (l ++ m) HO6.out.1 HO6.out.rd (HI.out.append HI2.out) (by omega)).mono ?_
  rintro e w3 ⟨⟨A', n, c, rfl, hown⟩, hb⟩
  have HO7 := Lib.hid hown; have HB7 := Lib.hid hb
  clear hown hb
  go_wp2_with fail
  go_ret
  exact ⟨⟨_, _, _, rfl, HO7.out.mono hs6⟩, HB6.out.trans (HB7.out.mono hs6)⟩
end Go.Proofs.Yteceephenfmdoaa
