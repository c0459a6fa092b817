/-
  RC: texts of one kind, one behind the other.
-/
import Derived.Shelf.GgSortFunc.Tiny
import Derived.Test.YtblibmalommdkaaGreatChecked
import Derived.Test.YtblibmalommdkaaGreatRB
import Derived.Shelf.SlSortFuncK.WholeK
import Derived.BigRegion
import Derived.Test.YtblibmalommdkaaGreatRA
/-
  DERIVED: THE SHELF's CONTRACTS AT THIS DUMP, IN PLAIN WORDS (tools/lay-plain.mjs out of 'YtblibmalommdkaaGreatRLay.lean', which tools/lay-shelf.mjs wrote): THE SAME DECLARATIONS UNDER THE SAME NAMES: 'import', 'namespace', 'open', 'def', 'theorem' AND NOTHING ELSE: no command of the shelf's: FOR A HAND-IN. Each laying: the table of numbers ('.._ren') and one theorem, a field a fact of the dump's own or the kernel's comparison; each contract: ONE APPLICATION.
-/
namespace Go.Proofs
open Go.Shelf
def Tryz.sl6_ren : Go.Shelf.Ren := ⟨fun | 6 => 78 | 10 => 83 | 11 => 84 | 12 => 85 | 13 => 86 | 14 => 87 | 24 => 99 | 25 => 100 | 26 => 101 | 27 => 102 | 28 => 103 | 29 => 104 | 30 => 105 | 31 => 106 | 32 => 107 | 33 => 108 | 34 => 110 | 35 => 111 | 36 => 112 | 37 => 113 | 38 => 114 | 39 => 115 | n => n, fun | 20 => 20 | 26 => 127 | 35 => 133 | 0 => 0 | 37 => 135 | 3 => 3 | 41 => 113 | 44 => 140 | 49 => 48 | 51 => 149 | 4 => 4 | 54 => 152 | 53 => 151 | 58 => 156 | 5 => 5 | 9 => 9 | 60 => 160 | 64 => 93 | 66 => 165 | 67 => 121 | 17 => 17 | 32 => 130 | 33 => 131 | 82 => 180 | 12 => 12 | 75 => 173 | 76 => 174 | 77 => 175 | 78 => 176 | 79 => 177 | 80 => 178 | n => n, fun | n => n⟩
theorem Tryz.sl6 : Go.Proofs.LaysGg.n6 Tryz.prog Tryz.sl6_ren := {
  mixed := by kernel_rfl
  f6 := Tryz.func78.trans (congrArg some (by kernel_rfl))
  f10 := Tryz.func83.trans (congrArg some (by kernel_rfl))
  f11 := Tryz.func84.trans (congrArg some (by kernel_rfl))
  f12 := Tryz.func85.trans (congrArg some (by kernel_rfl))
  f13 := Tryz.func86.trans (congrArg some (by kernel_rfl))
  f14 := Tryz.func87.trans (congrArg some (by kernel_rfl))
  f24 := Tryz.func99.trans (congrArg some (by kernel_rfl))
  f25 := Tryz.func100.trans (congrArg some (by kernel_rfl))
  f26 := Tryz.func101.trans (congrArg some (by kernel_rfl))
  f27 := Tryz.func102.trans (congrArg some (by kernel_rfl))
  f28 := Tryz.func103.trans (congrArg some (by kernel_rfl))
  f29 := Tryz.func104.trans (congrArg some (by kernel_rfl))
  f30 := Tryz.func105.trans (congrArg some (by kernel_rfl))
  f31 := Tryz.func106.trans (congrArg some (by kernel_rfl))
  f32 := Tryz.func107.trans (congrArg some (by kernel_rfl))
  f33 := Tryz.func108.trans (congrArg some (by kernel_rfl))
  f34 := Tryz.func110.trans (congrArg some (by kernel_rfl))
  f35 := Tryz.func111.trans (congrArg some (by kernel_rfl))
  f36 := Tryz.func112.trans (congrArg some (by kernel_rfl))
  f37 := Tryz.func113.trans (congrArg some (by kernel_rfl))
  f38 := Tryz.func114.trans (congrArg some (by kernel_rfl))
  f39 := Tryz.func115.trans (congrArg some (by kernel_rfl))
  t0 := Tryz.underlying0
  a0 := Tryz.isAgg0
  z0 := Tryz.sizeOf0
  v0 := Tryz.zeroValue0
  i0 := by kernel_rfl
  t3 := Tryz.underlying3
  a3 := Tryz.isAgg3
  z3 := Tryz.sizeOf3
  v3 := Tryz.zeroValue3
  i3 := by kernel_rfl
  t4 := Tryz.underlying4
  a4 := Tryz.isAgg4
  z4 := Tryz.sizeOf4
  v4 := Tryz.zeroValue4
  i4 := by kernel_rfl
  t5 := Tryz.underlying5
  a5 := Tryz.isAgg5
  z5 := Tryz.sizeOf5
  v5 := Tryz.zeroValue5
  i5 := by kernel_rfl
  t9 := Tryz.underlying9
  a9 := Tryz.isAgg9
  z9 := Tryz.sizeOf9
  v9 := Tryz.zeroValue9
  i9 := by kernel_rfl
  t12 := Tryz.underlying12
  a12 := Tryz.isAgg12
  z12 := Tryz.sizeOf12
  v12 := Tryz.zeroValue12
  i12 := by kernel_rfl
  t17 := Tryz.underlying17
  a17 := Tryz.isAgg17
  z17 := Tryz.sizeOf17
  v17 := Tryz.zeroValue17
  i17 := by kernel_rfl
  t20 := Tryz.underlying20
  a20 := Tryz.isAgg20
  z20 := Tryz.sizeOf20
  v20 := Tryz.zeroValue20
  i20 := by kernel_rfl
  t26 := Tryz.underlying127
  a26 := Tryz.isAgg127
  z26 := Tryz.sizeOf127
  v26 := Tryz.zeroValue127
  i26 := by kernel_rfl
  t32 := Tryz.underlying130
  a32 := Tryz.isAgg130
  z32 := Tryz.sizeOf130
  v32 := Tryz.zeroValue130
  i32 := by kernel_rfl
  t33 := Tryz.underlying131
  a33 := Tryz.isAgg131
  z33 := Tryz.sizeOf131
  v33 := Tryz.zeroValue131
  i33 := by kernel_rfl
  t35 := Tryz.underlying133
  a35 := Tryz.isAgg133
  z35 := Tryz.sizeOf133
  v35 := Tryz.zeroValue133
  i35 := by kernel_rfl
  t37 := Tryz.underlying135
  a37 := Tryz.isAgg135
  z37 := Tryz.sizeOf135
  v37 := Tryz.zeroValue135
  i37 := by kernel_rfl
  t41 := Tryz.underlying113
  a41 := Tryz.isAgg113
  z41 := Tryz.sizeOf113
  v41 := Tryz.zeroValue113
  i41 := by kernel_rfl
  t44 := Tryz.underlying140
  a44 := Tryz.isAgg140
  z44 := Tryz.sizeOf140
  v44 := Tryz.zeroValue140
  i44 := by kernel_rfl
  t49 := Tryz.underlying48
  a49 := Tryz.isAgg48
  z49 := Tryz.sizeOf48
  v49 := Tryz.zeroValue48
  i49 := by kernel_rfl
  t51 := Tryz.underlying149
  a51 := Tryz.isAgg149
  z51 := Tryz.sizeOf149
  v51 := Tryz.zeroValue149
  i51 := by kernel_rfl
  t53 := Tryz.underlying151
  a53 := Tryz.isAgg151
  z53 := Tryz.sizeOf151
  v53 := Tryz.zeroValue151
  i53 := by kernel_rfl
  t54 := Tryz.underlying152
  a54 := Tryz.isAgg152
  z54 := Tryz.sizeOf152
  v54 := Tryz.zeroValue152
  i54 := by kernel_rfl
  t58 := Tryz.underlying156
  a58 := Tryz.isAgg156
  z58 := Tryz.sizeOf156
  v58 := Tryz.zeroValue156
  i58 := by kernel_rfl
  t60 := Tryz.underlying160
  a60 := Tryz.isAgg160
  z60 := Tryz.sizeOf160
  v60 := Tryz.zeroValue160
  i60 := by kernel_rfl
  t64 := Tryz.underlying93
  a64 := Tryz.isAgg93
  z64 := Tryz.sizeOf93
  v64 := Tryz.zeroValue93
  i64 := by kernel_rfl
  t66 := Tryz.underlying165
  a66 := Tryz.isAgg165
  z66 := Tryz.sizeOf165
  v66 := Tryz.zeroValue165
  i66 := by kernel_rfl
  t67 := Tryz.underlying121
  a67 := Tryz.isAgg121
  z67 := Tryz.sizeOf121
  v67 := Tryz.zeroValue121
  i67 := by kernel_rfl
  t75 := Tryz.underlying173
  a75 := Tryz.isAgg173
  z75 := Tryz.sizeOf173
  v75 := Tryz.zeroValue173
  i75 := by kernel_rfl
  t76 := Tryz.underlying174
  a76 := Tryz.isAgg174
  z76 := Tryz.sizeOf174
  v76 := Tryz.zeroValue174
  i76 := by kernel_rfl
  t77 := Tryz.underlying175
  a77 := Tryz.isAgg175
  z77 := Tryz.sizeOf175
  v77 := Tryz.zeroValue175
  i77 := by kernel_rfl
  t78 := Tryz.underlying176
  a78 := Tryz.isAgg176
  z78 := Tryz.sizeOf176
  v78 := Tryz.zeroValue176
  i78 := by kernel_rfl
  t79 := Tryz.underlying177
  a79 := Tryz.isAgg177
  z79 := Tryz.sizeOf177
  v79 := Tryz.zeroValue177
  i79 := by kernel_rfl
  t80 := Tryz.underlying178
  a80 := Tryz.isAgg178
  z80 := Tryz.sizeOf178
  v80 := Tryz.zeroValue178
  i80 := by kernel_rfl
  t82 := Tryz.underlying180
  a82 := Tryz.isAgg180
  z82 := Tryz.sizeOf180
  v82 := Tryz.zeroValue180
  i82 := by kernel_rfl }
end Go.Proofs

/-
  What sort.Slice leaves of a row of ranges of the call's own, called as ranges.Normal calls it: the same ranges, by their beginnings.
-/
namespace Go.Proofs.YtblibmalommdkaaGreat
open Go.RowKit
noncomputable def svT : TypeInfo := (Tryz.prog.info? 27).get (by kernel_rfl)
noncomputable def svE : TypeInfo := (Tryz.prog.info? 74).get (by kernel_rfl)
theorem svK (n : Nat) (h2 : 2 ≤ n) : Lib.swapperK n svE 25 = 9 := by
  have a : svE.hasPointers = false := by kernel_rfl
  have b : svE.bytes = 16 := by kernel_rfl
  have c : (n == 0) = false := by simp; omega
  have d : (n == 1) = false := by simp; omega
  simp [Lib.swapperK, a, b, c, d]
def encR (p : R) : List Value := [.int .i64 p.1, .int .i64 p.2]
def ltR (a b : R) : Bool := decide (a.1 < b.1)
theorem swo_ltR : Sort.SWO ltR where
  irrefl := fun x => by simp [ltR]
  trans := fun x y z h1 h2 => by simp [ltR] at *; omega
  ntrans := fun x y z h1 h2 => by simp [ltR] at *; omega
set_option maxRecDepth 100000 in
set_option maxHeartbeats 2000000 in
theorem less_any (blk off c Bs size : Nat) (W : World) (G : Nat → Int) (hs : W.cell? ⟨Bs, 0, none⟩ = some (.slice (some ⟨blk, off, none⟩) size c))
    (hc : ∀ t, t < size → W.cell? ⟨blk, off + t * 2, none⟩ = some (.int .i64 (G t))) (i j : Nat) (hi : i < size) (hj : j < size) (_hsz : size < 4611686018427387904) :
    Calls Tryz.prog 79 #[.int .i64 i, .int .i64 j, .pointer (some ⟨Bs, 0, none⟩)] W fun e w' => e = .returned (.bool (decide (G i < G j))) ∧ ∃ q, w' = W.drewN q := by
  have ci := hc i hi
  have cj := hc j hj
  go_enter Tryz.func79, Tryz.ntmps79
  go_wp2
  go_quiet (fail)
  go_wp2
  go_ret
  exact ⟨rfl, nq, rfl⟩
theorem below_grow (B : Nat) (w : World) (os : Array Obj) (hB : B ≤ w.heap.size) : Below B w (Sort.grow w os) :=
  ⟨rfl, rfl, rfl, by rw [Sort.size_grow]; omega, fun k hk => Sort.heap_grow_old w os (by omega)⟩
theorem below_put (B : Nat) (w : World) (n blk off : Nat) (d : Array R) (hB : B ≤ blk) : Below B w (Sort.putRowK encR 2 (Sort.ahead w n) blk off d) := by
  refine ⟨rfl, rfl, rfl, by rw [Sort.size_putRowK]; exact Nat.le_refl _, fun k hk => ?_⟩
  show ((Sort.ahead w n).heap.modify blk _)[k]? = _
  rw [Array.getElem?_modify, if_neg (by omega)]; rfl
theorem holds_own {w : World} {base g n c : Nat} {l : List R} (h : Own w base (some ⟨g, 0, Option.none⟩) n c l) : Sort.HoldsK encR 2 w g 0 l.toArray := by
  intro j hj
  rw [Sort.size_flatK] at hj
  rw [Sort.get_flatK _ _ _ _ hj]
  have hl := h.1
  simp only [List.size_toArray] at hj
  obtain ⟨s, hs⟩ := get_some l (j / 2) (by omega)
  obtain ⟨c0, c1⟩ := cells_get l _ s hs
  have e : l.toArray[j / 2]! = s := by rw [List.getElem!_toArray, List.getElem!_eq_getElem?_getD, hs]; rfl
  rw [e, Nat.zero_add]
  refine ⟨?_, h.2.frozenAt _⟩
  rw [h.2.cellAt _ (by omega)]
  rcases Nat.mod_two_eq_zero_or_one j with hm | hm
  · rw [show j / 2 * 2 = j by omega] at c0
    rw [c0, hm]; rfl
  · rw [show j / 2 * 2 + 1 = j by omega] at c1
    rw [c1, hm]; rfl
theorem rd_holds {w : World} {g : Nat} {d : Array R} (h : Sort.HoldsK encR 2 w g 0 d) (hg : g < w.heap.size) : Rd w w.heap.size (some ⟨g, 0, none⟩) d.toList := by
  intro k s hs
  obtain ⟨hk, e⟩ := List.getElem?_eq_some_iff.1 hs
  have hk' : k < d.size := by simpa using hk
  have e' : d[k]! = s := by rw [getElem!_pos d k hk']; simpa using e
  have h0 := (h.cell (i := k) (c := 0) hk' (by omega)).1
  have h1 := (h.cell (i := k) (c := 1) hk' (by omega)).1
  rw [e'] at h0 h1
  exact ⟨g, 0, rfl, hg, h0, h1⟩
theorem sort_any (w : World) (B0 : Nat) (A : Option Addr) (n c : Nat) (l : List R) (hB : B0 < w.heap.size) (hc : w.cell? ⟨B0, 0, none⟩ = some (.slice A n c)) (hown : Own w (B0 + 1) A n c l) (hn : n < 4611686018427387904) :
    Calls Tryz.prog 78 #[.iface 27 (.slice A n c), .func (.func 79) #[] #[.pointer (some ⟨B0, 0, none⟩)]] w fun e w' =>
      e = .returned (.tuple #[]) ∧ (∃ d : List R, d.Perm l ∧ d.Pairwise (fun a b => a.1 ≤ b.1) ∧ Rd w' w'.heap.size A d) ∧ Below (B0 + 1) w w' := by
  by_cases h2 : 2 ≤ n
  · obtain ⟨g, rfl, hg1, hg2, _⟩ := hown.form (by omega)
    have hl := hown.1
    have hH := holds_own hown
    have hs : l.toArray.size = n := by simpa using hl
    have hless : LessReadsK Tryz.prog 79 #[.pointer (some ⟨B0, 0, none⟩)] encR 2 ltR g 0 l.toArray.size w := by
      intro m os dk hs' i j hi hj
      have e : sortWorldK encR 2 w g 0 m dk os = Sort.putRowK encR 2 (Sort.grow (Sort.ahead w m) os) g 0 dk := by
        unfold sortWorldK; rw [Sort.putRowK_grow _ _ (Sort.ahead w m) _ g 0 _ hg2]
      have hHg : Sort.HoldsK encR 2 (Sort.grow (Sort.ahead w m) os) g 0 l.toArray := Sort.holdsK_grow _ _ _ _ g 0 _ hg2 (Sort.holdsK_ahead _ _ _ _ _ _ _ hH)
      refine less_any g 0 c B0 l.toArray.size _ (fun t => dk[t]!.1) ?_ (fun t ht => ?_) i j hi hj (by omega)
      · rw [e, Sort.cell?_putRowK_other _ _ _ g 0 dk _ (by show B0 ≠ g; omega), Sort.cell?_grow _ _ _ (by exact hB), hs]; exact hc
      · rw [e]; exact ((Sort.holdsK_putRowK _ _ _ g 0 _ dk hHg hs').cell (i := t) (c := 0) (by omega) (by omega)).1
    have hS := Any.sort_Slice_cells_sorted Tryz.sl6 27 74 svT svE (by kernel_rfl) (by kernel_rfl) (by kernel_rfl) (by kernel_rfl) 25 (fun _ => by kernel_rfl) encR 2 (fun _ => rfl) (by kernel_rfl) (fun _ => by kernel_rfl)
      (fun x v hv => by simp [encR] at hv; rcases hv with rfl | rfl <;> rfl) ltR swo_ltR 79 _
      (enters_of Tryz.func79 (by kernel_rfl) rfl) g 0 c l.toArray (by omega) (by omega) 98 (by rw [svK _ (by omega)]; kernel_rfl) false
      (fun args W => run_callFunc_extern Tryz.func98 (by kernel_rfl) (by kernel_rfl) (by kernel_rfl) (e := Extern.ReflectliteSwapper.swap false) (by kernel_rfl) args W) w hless hH hg2
    change Calls Tryz.prog 78 _ _ _ at hS
    rw [hs] at hS
    refine hS.mono ?_
    rintro e w' ⟨rfl, d', nd, os, ⟨p1, _, p3⟩, hso, rfl⟩
    have hd : d'.size = n := p1.trans hs
    have e1 : l.toArray.extract 0 n = l.toArray := by rw [← hs]; exact Array.extract_size
    have e2 : d'.extract 0 n = d' := by rw [← hd]; exact Array.extract_size
    rw [e1, e2] at p3
    have hg3 : g < (Sort.putRowK encR 2 (Sort.ahead w nd) g 0 d').heap.size := by rw [Sort.size_putRowK]; exact hg2
    refine ⟨rfl, ⟨d'.toList, by simpa using p3, ?_, ?_⟩, (below_put (B0+1) w nd g 0 d' (by omega)).trans (below_grow _ _ _ (by omega))⟩
    · rw [List.pairwise_iff_getElem]
      intro i j hi hj hij
      simp only [Array.length_toList] at hi hj
      have := hso i j (Nat.zero_le _) hij (by omega)
      simp only [ltR, getElem!_pos d' i hi, getElem!_pos d' j hj, decide_eq_false_iff_not] at this
      simp only [Array.getElem_toList]
      omega
    · refine rd_holds (Sort.holdsK_grow _ _ _ _ g 0 _ hg3 (Sort.holdsK_putRowK _ _ _ g 0 l.toArray d' (Sort.holdsK_ahead _ _ _ _ _ _ _ hH) (by omega))) ?_
      rw [Sort.size_grow]; omega
  · have hK : Lib.swapperK n svE 25 = n + 1 := by
      rcases Nat.eq_zero_or_pos n with h | h
      · subst h; simp [Lib.swapperK]
      · obtain rfl : n = 1 := by omega
        simp [Lib.swapperK]
    have hS := Any.sort_Slice_tiny Tryz.sl6 27 74 svT svE (by kernel_rfl) (by kernel_rfl) (by kernel_rfl) (by kernel_rfl) 25 (fun _ => by kernel_rfl) A n c (by omega) (90 + n) (by
      rw [hK]
      rcases Nat.eq_zero_or_pos n with h | h
      · subst h; kernel_rfl
      · obtain rfl : n = 1 := by omega
        kernel_rfl) (.func 79) #[] #[.pointer (some ⟨B0, 0, none⟩)] w
    change Calls Tryz.prog 78 _ _ _ at hS
    refine hS.mono ?_
    rintro e w' ⟨rfl, os, rfl⟩
    refine ⟨rfl, ⟨l, List.Perm.refl _, ?_, ?_⟩, below_grow _ _ _ (by omega)⟩
    · have := hown.1
      match l, this with
      | [], _ => exact List.Pairwise.nil
      | [x], _ => exact List.pairwise_singleton _ _
      | x :: y :: r, h => simp at h; omega
    · exact hown.rd.up (below_grow _ w os (Nat.le_refl _))
end Go.Proofs.YtblibmalommdkaaGreat

/-
  What ranges.Normal answers: the right list of the same numbers; the list stays.
-/
namespace Go.Proofs.YtblibmalommdkaaGreat
open Go.RowKit
theorem clip_snoc (l : List R) (s : R) : clip (l ++ [s]) = clip l ++ (if max s.1 0 < s.2 then [(max s.1 0, s.2)] else []) := by
  unfold clip
  rw [List.map_append, List.filter_append]
  congr 1
  simp only [List.map_cons, List.map_nil, List.filter_cons, List.filter_nil, decide_eq_true_eq]
theorem grown_setCell (w : World) (a : Addr) (v : Value) : w.grownBy (w.setCell a v) (some a.block) := by
  have hb := (Below.refl 0 w).setCell (p := a) (Nat.zero_le _) v
  exact ⟨hb.os, hb.tape, hb.output, hb.size, fun k _ hne => Below.heap_setCell w a v k (fun e => hne (by rw [e]))⟩
theorem Own.setBeside {w : World} {base : Nat} {A : Option Addr} {n cap : Nat} {l : List R} (h : Own w base A n cap l) (a : Addr) (v : Value) (ha : a.block < base ∨ w.heap.size ≤ a.block) : Own (w.setCell a v) base A n cap l := by
  refine ⟨h.1, h.2.kept (grown_setCell w a v) (.inr fun hh => ?_)⟩
  have := h.2.lt a.block hh
  omega
/-- A boxed row of the call's own. -/
structure Bx (w : World) (B : Nat) (A : Option Addr) (n c : Nat) (l : List R) : Prop where
  cell : w.cell? ⟨B, 0, none⟩ = some (.slice A n c)
  fr : w.frozen? ⟨B, 0, none⟩ = false
  own : Own w (B+1) A n c l
  lt : B < w.heap.size
theorem mstep_nil (s : R) : mstep [] s = [s] := rfl
theorem mstep_yes (L : List R) (t s : R) (h : s.1 ≤ t.2) : mstep (L ++ [t]) s = L ++ [(t.1, max t.2 s.2)] := by
  unfold mstep
  simp [h]
theorem mstep_no (L : List R) (t s : R) (h : ¬ s.1 ≤ t.2) : mstep (L ++ [t]) s = L ++ [t] ++ [s] := by
  unfold mstep
  simp [h]
theorem snoc_cases {α : Type} (l : List α) : l = [] ∨ ∃ l' x, l = l' ++ [x] := by
  rcases List.eq_nil_or_concat l with rfl | ⟨l', x, rfl⟩
  · exact .inl rfl
  · exact .inr ⟨l', x, by rw [List.concat_eq_append]⟩
theorem clip_len (l : List R) : (clip l).length ≤ l.length := by unfold clip; exact Nat.le_trans (List.length_filter_le _ _) (by simp)
set_option maxRecDepth 100000 in
set_option maxHeartbeats 800000 in
theorem Normal_any (A : Option Addr) (len cap : Nat) (w : World) (l : List R) (hlen : l.length = len) (hr : Rd w w.heap.size A l) (hI : IR l) (hm : len ≤ 1099511627776) :
    Calls Tryz.prog 64 #[.slice A len cap] w fun e w' => (∃ A' n c, e = .returned (.slice A' n c) ∧ Own w' w.heap.size A' n c (nl l)) ∧ Below w.heap.size w w' := by
  obtain ⟨i0, hi, hz0, hz1, hz2⟩ := info_parts info29
  have H := Lib.hid hlen; have HR := Lib.hid hr; have HI := Lib.hid hI
  clear hlen hr hI
  go_enter Tryz.func64, Tryz.ntmps64
  go_wp2_with fail
  generalize hBB : w.heap.size = BB at *
  have HB := Lib.hid hBB; clear hBB
  go_loopw [12] (fun i wr => ∃ k n A' c, k ≤ len ∧ n ≤ k ∧ i = .int .i64 k ∧ Bx wr BB A' n c (clip (l.take k)) ∧ Below BB w wr) (fun i _ => len - (intOf i).toNat)
  case atStart =>
    obtain rfl := HB.out
    exact ⟨0, 0, Option.none, 0, Nat.zero_le _, Nat.le_refl _, rfl, ⟨cell_new _ _ _ 0, by unfold World.frozen?; rw [heap_alloc_new]; simp, Own.nil _ _, by simp⟩, (Below.refl _ _).alloc (Nat.le_refl _) _⟩
  case round =>
    obtain ⟨k, n, A', c, hk, hnk, rfl, hbx, hb⟩ := hrel
    have g0 := hbx.cell
    have gf := hbx.fr
    have gl := hbx.lt
    have hsz : BB ≤ wr.heap.size := by omega
    by_cases hlt : k < len
    · obtain ⟨s, hs⟩ := get_some l k (by have := H.out; omega)
      obtain ⟨b2, off2, rfl, hb2, c0, c1⟩ := HR.out.below hb (Nat.le_refl _) k s hs
      have HX := Lib.hid hbx; have HBel := Lib.hid hb
      have ht : clip (l.take (k+1)) = clip (l.take k) ++ (if max s.1 0 < s.2 then [(max s.1 0, s.2)] else []) := by rw [take_snoc l k s hs, clip_snoc]
      by_cases h1 : max s.1 0 < s.2
      · rw [if_pos h1] at ht
        have HT := Lib.hid ht
        clear hbx hb hs ht
        go_wp2_with (at_builtin; refine wpList_append_own _ rfl (.tmp 25) (.tmp 27) 27 rfl (BB+1) 74 i0 _ 2 16 Tryz.underlying27 hi hz0 hz1 hz2 rfl (by decide) _ _ _ rfl ((HX.out.own.alloc _).alloc _).2 ⟨wr.heap.size + 1, 0, none⟩ 1 1 (cells [(max s.1 0, s.2)]) rfl rfl (new_one _ (max s.1 0, s.2) _ (by simp)) (cells_one_cell _) (by unfold maxLen; omega) (by omega) (by simp; omega) ?_)
        intro v' w1 hown' hgrow _
        obtain ⟨⟨A'', c'', hv, hown2⟩, _, hst, hz3, _⟩ := appL_step (w := wr) HX.out.own (Below.refl _ _) (by omega) (((Below.refl _ _).alloc (Nat.le_refl _) _).alloc (by simp) _) (m := 1) (K := [(max s.1 0, s.2)]) rfl hown' hgrow
        have e0 : w1.cell? ⟨BB, 0, none⟩ = some (.slice A' n c) := (hst.cell (p := ⟨BB, 0, none⟩) (by show BB < BB + 1; omega)).trans g0
        have ef : w1.frozen? ⟨BB, 0, none⟩ = false := (hst.frozen (p := ⟨BB, 0, none⟩) (by show BB < BB + 1; omega)).trans gf
        have HO2 := Lib.hid hown2; have HST := Lib.hid hst
        rw [hv]
        clear hgrow hown' hv hown2 hst hz3
        go_wp2_with fail
        go_roundw
        case rel =>
          have h2 := HST.out.size
          refine ⟨k+1, n+1, A'', c'', by omega, by omega, by go_num, ⟨World.cell?_setCell_same _ _ _ e0, by rw [World.frozen?_setCell]; exact ef, ?_, by simp; omega⟩, ((HBel.out.trans (HST.out.mono (by omega))).setCell (Nat.le_refl BB) _)⟩
          rw [HT.out]
          exact HO2.out.setBeside _ _ (.inl (by show BB < BB + 1; omega))
        case measure => simp [intOf]; omega
      · rw [if_neg h1, List.append_nil] at ht
        have HT := Lib.hid ht
        clear hbx hb hs ht
        go_wp2_with fail
        go_roundw
        case rel =>
          refine ⟨k+1, n, A', c, by omega, by omega, by go_num, ⟨(World.cell?_alloc_lt _ _ _ gl).trans g0, ?_, by rw [HT.out]; exact HX.out.own.alloc _, by simp; omega⟩, HBel.out.alloc hsz _⟩
          exact ((Below.refl (BB+1) wr).alloc (by omega) _).frozen (p := ⟨BB, 0, none⟩) (by show BB < BB + 1; omega) |>.trans gf
        case measure => simp [intOf]; omega
    · obtain rfl : k = len := by omega
      have e2 : l.take k = l := by rw [List.take_of_length_le (Nat.le_of_eq H.out)]
      rw [e2] at hbx
      have HX := Lib.hid hbx; have HBel := Lib.hid hb
      clear hbx hb hlt e2
      go_wp2_with fail
      refine (sort_any wr BB A' n c (clip l) gl g0 HX.out.own (by omega)).mono ?_
      rintro e w1 ⟨rfl, ⟨d, hp, hs, hrd⟩, hst⟩
      have e0 : w1.cell? ⟨BB, 0, none⟩ = some (.slice A' n c) := (hst.cell (p := ⟨BB, 0, none⟩) (by show BB < BB + 1; omega)).trans g0
      have hdl : d.length = n := hp.length_eq.trans HX.out.own.1
      have hB1 : Below BB w w1 := HBel.out.trans (hst.mono (by omega))
      have HE := Lib.hid (nl_eq l d hp hs)
      have HP := Lib.hid (show ∀ r ∈ d, 0 ≤ r.1 ∧ r.1 < r.2 from fun r hr => clip_ok l r (hp.mem_iff.1 hr))
      have HS := Lib.hid hs
      have HD := Lib.hid hdl; have HRD := Lib.hid hrd; have HB1 := Lib.hid hB1
      have hi64 : ∀ r ∈ d, r.2 ≤ 9223372036854775807 := by
        intro r hr
        obtain ⟨h1, _⟩ := List.mem_filter.1 (show r ∈ clip l from hp.mem_iff.1 hr)
        obtain ⟨q, hq, rfl⟩ := List.mem_map.1 h1
        exact (HI.out q hq).2.2
      have HU := Lib.hid hi64
      clear hp hs hrd hst hdl hB1 hi64 HX HBel HR g0 gf gl
      generalize hS : w1.heap.size = SS at *
      have hSB : BB ≤ SS := by have := HB1.out.size; have := HB.out; omega
      have HSS := Lib.hid hS
      clear hS
      go_wp2_with fail
      go_loopw [6, 36] (fun v i wr => ∃ j m A2 c2, j ≤ n ∧ m ≤ j ∧ i = .int .i64 j ∧ v = .slice A2 m c2 ∧ Own wr SS A2 m c2 ((d.take j).foldl mstep []) ∧ Below SS w1 wr) (fun _ i _ => n - (intOf i).toNat)
      case atStart => exact ⟨0, 0, _, _, Nat.zero_le _, Nat.le_refl _, rfl, rfl, Own.nil _ _, Below.refl _ _⟩
      case round =>
        obtain ⟨j, m, A2, c2, hj, hmj, rfl, rfl, hown, hb⟩ := hrel
        have HO := Lib.hid hown; have HBel := Lib.hid hb
        have hs2 : SS ≤ wr.heap.size := by have := hb.size; have := HSS.out; omega
        by_cases hlt2 : j < n
        · obtain ⟨s, hs⟩ := get_some d j (by have := HD.out; omega)
          obtain ⟨b2, off2, rfl, hb2, c0, c1⟩ := HRD.out.below hb (Nat.le_refl _) j s hs
          have ht : (d.take (j+1)).foldl mstep [] = mstep ((d.take j).foldl mstep []) s := by rw [take_snoc d j s hs, List.foldl_append]; rfl
          have hp0 := HP.out s (List.mem_of_getElem? hs)
          have hu0 := HU.out s (List.mem_of_getElem? hs)
          have HT := Lib.hid ht
          have hJ := hown.1
          clear hs ht hown hb
          generalize (d.take j).foldl mstep [] = O at *
          rcases snoc_cases O with rfl | ⟨L, t, rfl⟩
          · obtain rfl : m = 0 := by simpa using hJ.symm
            clear hJ
            go_wp2_with fail
            go_quiet (fail)
            go_wp2_with (at_builtin; refine wpList_append_own _ rfl (.tmp 67) (.tmp 69) 27 rfl SS 74 i0 _ 2 16 Tryz.underlying27 hi hz0 hz1 hz2 rfl (by decide) _ _ _ rfl (((HO.out.alloc _).drewN nq).alloc _).2 ⟨wr.heap.size + 1, 0, none⟩ 1 1 (cells [s]) rfl rfl (new_one _ s _ (by simp)) (cells_one_cell _) (by unfold maxLen; omega) (by omega) (by simp; omega) ?_)
            intro v' w2 hown' hgrow _
            obtain ⟨⟨A'', c'', hv, hown2⟩, hb3, _, _, _⟩ := appL_step HO.out HBel.out hs2 ((belowDrewN ((Below.refl _ _).alloc (Nat.le_refl _) _) nq).alloc (by simp) _) (m := 1) (K := [s]) rfl hown' hgrow
            rw [hv]
            clear hgrow hown' hv
            go_wp2_with fail
            go_roundw
            case rel => exact ⟨j+1, 0+1, A'', c'', by omega, by omega, by go_num, rfl, by rw [HT.out, mstep_nil]; exact hown2, hb3⟩
            case measure => simp [intOf]; omega
          · obtain ⟨q, rfl⟩ : ∃ q, m = q + 1 := ⟨L.length, by simpa using hJ.symm⟩
            obtain ⟨g, rfl, hg1, hg2, t0, t1, t2⟩ := HO.out.last
            clear hJ
            by_cases hc : s.1 ≤ t.2
            · have HC := Lib.hid (mstep_yes L t s hc)
              go_wp2_with fail
              go_quiet (fail)
              go_wp2_with fail
              go_region
              go_wp2_with fail
              go_roundw
              case rel =>
                refine ⟨j+1, q+1, some ⟨g, 0, Option.none⟩, c2, by omega, by omega, by go_num, rfl, ?_, ?_⟩
                · rw [HT.out, HC.out]
                  exact ((HO.out.alloc _).drewN _).setLast _
                · exact (belowDrewN (HBel.out.alloc hs2 _) _).setCell hg1 _
              case measure => simp [intOf]; omega
            · have HC := Lib.hid (mstep_no L t s hc)
              go_wp2_with fail
              go_quiet (fail)
              go_wp2_with (at_builtin; refine wpList_append_own _ rfl (.tmp 67) (.tmp 69) 27 rfl SS 74 i0 _ 2 16 Tryz.underlying27 hi hz0 hz1 hz2 rfl (by decide) _ _ _ rfl (((HO.out.alloc _).drewN nq).alloc _).2 ⟨wr.heap.size + 1, 0, none⟩ 1 1 (cells [s]) rfl rfl (new_one _ s _ (by simp)) (cells_one_cell _) (by unfold maxLen; omega) (by omega) (by simp; omega) ?_)
              intro v' w2 hown' hgrow _
              obtain ⟨⟨A'', c'', hv, hown2⟩, hb3, _, _, _⟩ := appL_step HO.out HBel.out hs2 ((belowDrewN ((Below.refl _ _).alloc (Nat.le_refl _) _) nq).alloc (by simp) _) (m := 1) (K := [s]) rfl hown' hgrow
              rw [hv]
              clear hgrow hown' hv
              go_wp2_with fail
              go_roundw
              case rel => exact ⟨j+1, q+1+1, A'', c'', by omega, by omega, by go_num, rfl, by rw [HT.out, HC.out]; exact hown2, hb3⟩
              case measure => simp [intOf]; omega
        · obtain rfl : j = n := by omega
          have e3 : d.take j = d := by rw [List.take_of_length_le (Nat.le_of_eq HD.out)]
          rw [e3, HE.out] at hown
          have HO := Lib.hid hown
          clear hown hb hlt2 e3
          go_wp2_with fail
          go_ret
          obtain rfl := HB.out
          exact ⟨⟨_, _, _, rfl, HO.out.mono hSB⟩, HB1.out.trans (HBel.out.mono hSB)⟩
end Go.Proofs.YtblibmalommdkaaGreat

/-
  What ranges.Total, Fit and Either answer.
-/
namespace Go
theorem wpList_append_any {P : Program} {w : World} {ops : Array Oper} {rest : List Oper} {o : Oper} {a : Act} {Q : Exit → Act → World → Prop} (hgd : o.guard = none) (s x : Operand) (t : TypeId)
    (ho : o.op = .call { callee := .builtin .append, args := #[s, x], argTypes := #[t, t] })
    (base : Nat) (e : TypeId) (i : TypeInfo) (z : Value) (size bytes : Nat) (ht : P.underlying t = some (.slice e)) (hi : P.info? e = some i) (hz : i.zero = some z)
    (hsize : i.size = size) (hby : i.bytes = bytes) (hzs : z.cells.size = size) (hsz : 0 < size)
    (v : Value) (n : Nat) (xs : List Value) (hs : a.eval s = v) (hown : w.ownsRow base e size v n xs)
    (A : Option Addr) (m c : Nat) (news : List Value) (hx : a.eval x = .slice A m c) (hnone : A = none → m = 0 ∧ c = 0) (hl : news.length = m * size) (hnews : ∀ ad, A = some ad → ∀ j u, news[j]? = some u → w.cell? (ad.add j) = some u) (h1 : ∀ u ∈ news, u.oneCell' = true)
    (h63 : n + m ≤ maxLen) (hbytes : (n + m) * bytes ≤ 140737488355328) (hbase : base ≤ w.heap.size)
    (h : ∀ v' w', w'.ownsRow base e size v' (n + m) (xs ++ news) → w.grownBy w' v.ownBlock → wpList P ops Q rest (a.put o.dst v') w') : wpList P ops Q (o :: rest) a w := by
  cases A with
  | none =>
    obtain ⟨rfl, rfl⟩ := hnone rfl
    have hn : news = [] := List.eq_nil_of_length_eq_zero (by simpa using hl)
    subst hn
    refine wpList_append_own_none hgd s x t ho base e i size ht hi v n xs hs hown hx (h v w ?_ (World.grownBy.refl _ _))
    simpa using hown
  | some ad =>
    exact wpList_append_own w hgd s x t ho base e i z size bytes ht hi hz hsize hby hzs hsz v n xs hs hown ad m c news hx hl (hnews ad rfl) h1 h63 hbytes hbase (fun v' w' h1 h2 _ => h v' w' h1 h2)
end Go
namespace Go.Proofs.YtblibmalommdkaaGreat
open Go.RowKit
theorem right_take {l : List R} (h : Right l) (k : Nat) : Right (l.take k) := by
  have e : l = l.take k ++ l.drop k := (List.take_append_drop ..).symm
  unfold Right at *
  rw [e, right_append] at h
  exact h.1
theorem nn_take {l : List R} (h : Nn l) (k : Nat) : Nn (l.take k) := fun r hr => h r (List.mem_of_mem_take hr)
set_option maxRecDepth 100000 in
theorem Total_any (A : Option Addr) (len cap : Nat) (w : World) (l : List R) (hlen : l.length = len) (hr : Rd w w.heap.size A l) (hI : IR l) (hm : len ≤ 1099511627776) :
    Calls Tryz.prog 46 #[.slice A len cap] w fun e w' => e = .returned (.int .i64 (tot (nl l))) ∧ Below w.heap.size w w' := by
  have H := Lib.hid hlen; have HR := Lib.hid hr; have HI := Lib.hid hI
  clear hlen hr hI
  go_enter Tryz.func46, Tryz.ntmps46
  go_wp2_with fail
  refine (Normal_any A len cap _ l H.out HR.out HI.out hm).mono ?_
  rintro e w1 ⟨⟨A', n, c, rfl, hown⟩, hb⟩
  have hl := hown.1
  have hn : n ≤ 1099511627776 := by have := nl_len l; have := H.out; omega
  have hrd := Lib.hid hown.rd
  have HO := Lib.hid hown; have HB := Lib.hid hb; have HL := Lib.hid hl
  have HN := Lib.hid (nl_nn HI.out)
  have HT := Lib.hid (nl_is l).1
  clear hown hb hl H HR HI
  go_wp2_with fail
  go_loopw [3, 9] (fun t i wr => ∃ k : Nat, k ≤ n ∧ i = .int .i64 k ∧ t = .int .i64 (tot ((nl l).take k)) ∧ Below w1.heap.size w1 wr) (fun _ i _ => n - (intOf i).toNat)
  case atStart => exact ⟨0, Nat.zero_le _, rfl, rfl, Below.refl _ _⟩
  case round =>
    obtain ⟨k, hk, rfl, rfl, hb⟩ := hrel
    by_cases hlt : k < n
    · obtain ⟨s, hs⟩ := get_some (nl l) k (by have := HL.out; omega)
      obtain ⟨b, off, rfl, hb', h0, h1⟩ := hrd.out.below hb (Nat.le_refl _) k s hs
      obtain ⟨s0, s1, s2⟩ := HN.out s (List.mem_of_getElem? hs)
      have e1 : tot ((nl l).take (k+1)) = tot ((nl l).take k) + (s.2 - s.1) := by rw [take_snoc (nl l) k s hs, tot_snoc]
      obtain ⟨q0, q1⟩ := tot_bound (right_take HT.out k) (nn_take HN.out k)
      obtain ⟨q2, q3⟩ := tot_bound (right_take HT.out (k+1)) (nn_take HN.out (k+1))
      rw [e1] at q2 q3
      have E1 := Lib.hid e1
      clear hs e1
      generalize tot ((nl l).take k) = T at *
      go_wp2_with fail
      go_roundw
      case rel => exact ⟨k+1, by omega, by go_num, by rw [E1.out], hb.alloc hb.size _⟩
      case measure => simp [intOf]; omega
    · obtain rfl : k = n := by omega
      clear hlt
      have e2 : tot ((nl l).take k) = tot (nl l) := by rw [List.take_of_length_le (Nat.le_of_eq HL.out)]
      have E2 := Lib.hid e2
      clear e2
      go_wp2_with fail
      go_ret
      exact ⟨ret_int E2.out, below_up HB.out hb⟩
theorem fit_stop {m : List R} {k : Nat} {s : R} (hs : m[k]? = some s) {n : Int} (h : ∀ r ∈ m.take k, r.2 - r.1 < n) (h0 : n ≤ s.2 - s.1) : fitL m n = some s.1 := by
  obtain ⟨hk, e⟩ := List.getElem?_eq_some_iff.1 hs
  have e1 : m = m.take k ++ s :: m.drop (k+1) := by rw [← e, ← List.drop_eq_getElem_cons hk, List.take_append_drop]
  have e2 : (m.take k).find? (fun r => decide (n ≤ r.2 - r.1)) = none := by
    rw [List.find?_eq_none]
    intro r hr
    have := h r hr
    simp; omega
  unfold fitL
  rw [e1, List.find?_append, e2]
  simp [h0]
theorem fit_end {m : List R} {n : Int} (h : ∀ r ∈ m, r.2 - r.1 < n) : fitL m n = none := by
  unfold fitL
  rw [Option.map_eq_none_iff, List.find?_eq_none]
  intro r hr
  have := h r hr
  simp; omega
/-- What Fit answers. -/
def fitE : Option Int → Ending
  | none => .returned (.tuple #[.int .i64 0, .bool false])
  | some a => .returned (.tuple #[.int .i64 a, .bool true])
theorem Own.lit (w : World) (base : Nat) (hb : base ≤ w.heap.size) : Own (w.alloc (.cells #[] 74)) base (some ⟨w.heap.size, 0, Option.none⟩) 0 0 [] :=
  ⟨rfl, by simpa [cells] using World.ownsRow_lit (size := 2) (e := 74) w #[] 0 hb (by unfold maxLen; omega) rfl⟩
end Go.Proofs.YtblibmalommdkaaGreat
