/-
  The reference's Copy: a plan as new memory.
-/
import Derived.Test.YtblibmalommdkaaGreatKA
import Derived.StillTailTactics
namespace Go.Proofs.YtblibmalommdkaaGreat
open Go.RowKit
theorem step_append_told {w w' : World} {o : Oper} {a : Act} {K : Act → World → Prop} {Q : Exit → Act → World → Prop} {ops : Array Oper} {E : Prop} (hgd : o.guard = none) (s x : Operand) (t : TypeId) (ho : o.op = .call { callee := .builtin .append, args := #[s, x], argTypes := #[t, t] }) (v u r : Value) (hs : a.eval s = v) (hx : a.eval x = u) (hrun : (Builtin.append_ #[t, t] o.type #[v, u]).run Tryz.prog w = .ok r w') (h : K (a.put o.dst r) w') :
    if Region.wanted o (yielded ops a.tmps) = true then Oper.wp Tryz.prog o a w K Q else E := by
  have hw : Region.wanted o (yielded ops a.tmps) = true := by simp [Region.wanted, hgd]
  rw [if_pos hw]
  unfold Oper.wp execOp
  simp only [ho, resolve, invoke, builtin, Sem.run_bind, Sem.run_pure, Result.andThen_ok, List.map_toArray, List.map_cons, List.map_nil, hs, hx, hrun]
  exact h
theorem OwnS.push {w W0 w5 : World} {base n c : Nat} {A : Option Addr} {l : List StV} (h : OwnS w base A n c l) {s : StV} {v' : Value} (hown : w5.ownsRow base 78 2 v' (n + 1) (stCells l ++ stCells [s])) (_hg : W0.grownBy w5 (Value.slice A n c).ownBlock) : ∃ A' c', v' = .slice A' (n + 1) c' ∧ OwnS w5 base A' (n + 1) c' (l ++ [s]) := by
  obtain ⟨A', c', rfl⟩ := ext_of_ownS hown
  exact ⟨A', c', rfl, by rw [List.length_append, h.1]; rfl, by rw [stCells_append]; exact hown⟩
theorem map_take_snoc {α β : Type} (f : α → β) {l : List α} {k : Nat} {x : α} (h : l[k]? = some x) : (l.take (k + 1)).map f = (l.take k).map f ++ [f x] := by
  rw [Sc.take_snoc l k x h, List.map_append]; rfl
set_option maxRecDepth 100000 in
set_option maxHeartbeats 4000000 in
theorem Copy_plan (p : PlV) (w : World) (hP : PlOk w w.heap.size p) (hs : p.stash.length * 16 ≤ 140737488355328) (hw : p.waves.length ≤ 1000000) (hst : ∀ v ∈ p.waves, v.steps.length ≤ 1000000 ∧ ∀ s ∈ v.steps, s.parts.length * 24 ≤ 140737488355328) :
    Calls Tryz.prog 12 #[.agg p.cells] w fun e w' => (∃ q : PlV, e = .returned (.agg q.cells) ∧ q.pln = p.pln ∧ OwnP w' w.heap.size q) ∧ Below w.heap.size w w' := by
  obtain ⟨i0, hi, hz0, hz1, hz2⟩ := info_parts info29
  obtain ⟨k0, ki, kz0, kz1, kz2⟩ := info_parts info43
  obtain ⟨q0, qi, qz0, qz1, qz2⟩ := info_parts info70
  have HP := Lib.hid hP
  have HST := Lib.hid hst
  obtain ⟨n, SA, sc, stash, WA, wq, waves⟩ := p
  simp only at hs hw HST
  have hscap := hP.scap
  have hwcap := hP.wcap
  simp only at hscap hwcap
  unfold PlV.cells
  simp only
  clear hP hst
  go_enter Tryz.func12, Tryz.ntmps12
  go_upto_region 2 with (fail)
  have x0 : (((w.alloc (.cells #[.int .i64 n, .slice SA stash.length sc, .slice WA waves.length wq] 30)).alloc (.cells #[.int .i64 0, .slice none 0 0, .slice none 0 0] 30)).alloc (.cells #[.int .i64 n, .slice none 0 0, .slice none 0 0] 30)).heap[w.heap.size]? = some (.cells #[.int .i64 n, .slice SA stash.length sc, .slice WA waves.length wq] 30 (0, 0)) :=
    (heap_alloc_old _ _ (by simp; omega)).trans ((heap_alloc_old _ _ (by simp)).trans (heap_alloc_new w _))
  have x1 : (((w.alloc (.cells #[.int .i64 n, .slice SA stash.length sc, .slice WA waves.length wq] 30)).alloc (.cells #[.int .i64 0, .slice none 0 0, .slice none 0 0] 30)).alloc (.cells #[.int .i64 n, .slice none 0 0, .slice none 0 0] 30)).heap[w.heap.size + 1]? = some (.cells #[.int .i64 0, .slice none 0 0, .slice none 0 0] 30 (0, 0)) := by
    have h := heap_alloc_new (w.alloc (.cells #[.int .i64 n, .slice SA stash.length sc, .slice WA waves.length wq] 30)) (.cells #[.int .i64 0, .slice none 0 0, .slice none 0 0] 30)
    have e : (w.alloc (.cells #[.int .i64 n, .slice SA stash.length sc, .slice WA waves.length wq] 30)).heap.size = w.heap.size + 1 := by simp
    rw [e] at h
    exact (heap_alloc_old _ _ (by simp)).trans h
  have x2 : (((w.alloc (.cells #[.int .i64 n, .slice SA stash.length sc, .slice WA waves.length wq] 30)).alloc (.cells #[.int .i64 0, .slice none 0 0, .slice none 0 0] 30)).alloc (.cells #[.int .i64 n, .slice none 0 0, .slice none 0 0] 30)).heap[w.heap.size + 1 + 1]? = some (.cells #[.int .i64 n, .slice none 0 0, .slice none 0 0] 30 (0, 0)) := by
    have h := heap_alloc_new ((w.alloc (.cells #[.int .i64 n, .slice SA stash.length sc, .slice WA waves.length wq] 30)).alloc (.cells #[.int .i64 0, .slice none 0 0, .slice none 0 0] 30)) (.cells #[.int .i64 n, .slice none 0 0, .slice none 0 0] 30)
    have e : ((w.alloc (.cells #[.int .i64 n, .slice SA stash.length sc, .slice WA waves.length wq] 30)).alloc (.cells #[.int .i64 0, .slice none 0 0, .slice none 0 0] 30)).heap.size = w.heap.size + 1 + 1 := by simp
    rw [e] at h
    exact h
  have hb3 : Below w.heap.size w (((w.alloc (.cells #[.int .i64 n, .slice SA stash.length sc, .slice WA waves.length wq] 30)).alloc (.cells #[.int .i64 0, .slice none 0 0, .slice none 0 0] 30)).alloc (.cells #[.int .i64 n, .slice none 0 0, .slice none 0 0] 30)) := (((Below.refl _ _).alloc (Nat.le_refl _) _).alloc (by simp) _).alloc (by simp; omega) _
  have hz3 : (((w.alloc (.cells #[.int .i64 n, .slice SA stash.length sc, .slice WA waves.length wq] 30)).alloc (.cells #[.int .i64 0, .slice none 0 0, .slice none 0 0] 30)).alloc (.cells #[.int .i64 n, .slice none 0 0, .slice none 0 0] 30)).heap.size = w.heap.size + 3 := by simp
  have HX0 := Lib.hid x0; have HX1 := Lib.hid x1; have HX2 := Lib.hid x2; have HB3 := Lib.hid hb3
  clear x0 x1 x2 hb3
  generalize ((w.alloc (.cells #[.int .i64 n, .slice SA stash.length sc, .slice WA waves.length wq] 30)).alloc (.cells #[.int .i64 0, .slice none 0 0, .slice none 0 0] 30)).alloc (.cells #[.int .i64 n, .slice none 0 0, .slice none 0 0] 30) = W3 at *
  have hqb : w.heap.size + 1 + 1 = w.heap.size + 2 := by omega
  rw [hqb] at HX2 ⊢
  generalize hpb : w.heap.size = pb at *
  have HPB := Lib.hid hpb
  clear hpb hqb
  have c1 : W3.cell? ⟨pb + 2, 1, none⟩ = some (.slice none 0 0) := cell_of_row _ _ 1 _ 30 (0, 0) HX2.out
  have p1 : W3.cell? ⟨pb, 1, none⟩ = some (.slice SA stash.length sc) := cell_of_row _ _ 1 _ 30 (0, 0) HX0.out
  have HRS : Hid (Rd W3 pb SA stash) := Lib.hid (HP.out.st.below HB3.out (Nat.le_refl _))
  go_wp2_with (at_builtin; refine wpList_append_any rfl (.tmp 12) (.tmp 14) 27 rfl (pb + 3) 74 i0 _ 2 16 Tryz.underlying27 hi hz0 hz1 hz2 rfl (by decide) (.slice none 0 0) 0 [] (by rfl) (World.ownsRow_nil _ _ _ _) SA stash.length sc (cells stash) (by rfl) HP.out.sno (by rw [cells_len]) HRS.out.cells' (cells_one_cell _) (by unfold maxLen; omega) (by omega) (by omega) ?_)
  intro v' w4 hown' hgrow
  obtain ⟨SA', sc', rfl⟩ : ∃ A cap, v' = .slice A stash.length cap := by
    rcases hown'.2 with ⟨hv, hn⟩ | ⟨g, cap', cur, hv, _⟩
    · rw [hn]; exact ⟨_, _, hv⟩
    · exact ⟨_, _, hv⟩
  have hb4 : Below (pb + 3) W3 w4 := (Below.refl _ _).grown hgrow (by omega) (fun k hk => by cases hk)
  have hsz4 : pb + 3 ≤ w4.heap.size := by have := hb4.size; omega
  have HSO : Hid (Own w4 (pb + 3) SA' stash.length sc' stash) := Lib.hid ⟨rfl, hown'⟩
  have y0 : w4.heap[pb]? = some (.cells #[.int .i64 n, .slice SA stash.length sc, .slice WA waves.length wq] 30 (0, 0)) := (hb4.block pb (by omega)).trans HX0.out
  have y1 : w4.heap[pb + 1]? = some (.cells #[.int .i64 0, .slice none 0 0, .slice none 0 0] 30 (0, 0)) := (hb4.block (pb + 1) (by omega)).trans HX1.out
  have y2 : w4.heap[pb + 2]? = some (.cells #[.int .i64 n, .slice none 0 0, .slice none 0 0] 30 (0, 0)) := (hb4.block (pb + 2) (by omega)).trans HX2.out
  have c14 : w4.cell? ⟨pb + 2, 1, none⟩ = some (.slice none 0 0) := cell_of_row _ _ 1 _ 30 (0, 0) y2
  have z14 : w4.frozen? ⟨pb + 2, 1, none⟩ = false := frozen_of_row _ _ 1 _ _ y2
  have e5 := heap_setCell_same w4 (pb + 2) 1 _ 30 (.slice SA' stash.length sc') y2
  have HC5 : Hid (OwnP (w4.setCell ⟨pb + 2, 1, none⟩ (.slice SA' stash.length sc')) (pb + 3) ⟨n, SA', sc', stash, none, 0, []⟩ ∧ ((w4.setCell ⟨pb + 2, 1, none⟩ (.slice SA' stash.length sc')).heap[pb]? = some (.cells #[.int .i64 n, .slice SA stash.length sc, .slice WA waves.length wq] 30 (0, 0)) ∧ (w4.setCell ⟨pb + 2, 1, none⟩ (.slice SA' stash.length sc')).heap[pb + 1]? = some (.cells #[.int .i64 0, .slice none 0 0, .slice none 0 0] 30 (0, 0)) ∧ (w4.setCell ⟨pb + 2, 1, none⟩ (.slice SA' stash.length sc')).heap[pb + 2]? = some (.cells #[.int .i64 n, .slice SA' stash.length sc', .slice none 0 0] 30 (0, 0))) ∧ Below pb w (w4.setCell ⟨pb + 2, 1, none⟩ (.slice SA' stash.length sc'))) :=
    Lib.hid ⟨⟨HSO.out.setBeside _ _ (.inl (by simp)), OwnW.nil _ _, fun v hv => (by cases hv), fun i j u v b h => by simp at h⟩,
      ⟨(heap_setCell_other _ _ _ _ (by simp)).trans y0, (heap_setCell_other _ _ _ _ (by simp)).trans y1, by rw [e5]; simp⟩, (HB3.out.trans (hb4.mono (by omega))).setCell (by simp) _⟩
  clear hown' hgrow hb4 HSO y0 y1 y2 e5 HX0 HX1 HX2 HB3 HRS p1 c1
  go_wp2_with fail
  clear c14 z14
  generalize w4.setCell ⟨pb + 2, 1, none⟩ (.slice SA' stash.length sc') = w5 at *
  go_loopw [4] (fun i wx => ∃ (k : Nat) (WA' : Option Addr) (wc' : Nat) (Q : List WvV), k ≤ waves.length ∧ i = .int .i64 k ∧ Q.length = k ∧ Hid (OwnP wx (pb + 3) ⟨n, SA', sc', stash, WA', wc', Q⟩ ∧ Q.map WvV.wv = (waves.take k).map WvV.wv ∧ (wx.heap[pb]? = some (.cells #[.int .i64 n, .slice SA stash.length sc, .slice WA waves.length wq] 30 (0, 0)) ∧ wx.heap[pb + 1]? = some (.cells #[.int .i64 0, .slice none 0 0, .slice none 0 0] 30 (0, 0)) ∧ wx.heap[pb + 2]? = some (.cells #[.int .i64 n, .slice SA' stash.length sc', .slice WA' k wc'] 30 (0, 0))) ∧ Below pb w wx)) (fun i _ => waves.length - (intOf i).toNat)
  case atStart => exact ⟨0, none, 0, [], Nat.zero_le _, rfl, rfl, Lib.hid ⟨HC5.out.1, by simp, HC5.out.2.1, HC5.out.2.2⟩⟩
  case round =>
    clear HC5
    obtain ⟨k, WA', wc', Q, hk, rfl, hQ, HI⟩ := hrel
    have e2 : wr.cell? ⟨pb, 2, none⟩ = some (.slice WA waves.length wq) := cell_of_row _ _ 2 _ 30 (0, 0) HI.out.2.2.1.1
    have hszr : pb + 2 < wr.heap.size := (Array.getElem?_eq_some_iff.1 HI.out.2.2.1.2.2).1
    by_cases hlt : k < waves.length
    · obtain ⟨v, hv⟩ := Sc.get_some waves k hlt
      obtain ⟨wb, woff, rfl, hwb, w0, hwv⟩ := HP.out.wv k v hv
      have HVW := Lib.hid (map_take_snoc WvV.wv hv)
      have HSV := Lib.hid (HST.out v (List.mem_of_getElem? hv))
      have HWV := Lib.hid hwv
      have HW0 := Lib.hid w0
      obtain ⟨VA, vc, steps⟩ := v
      simp only at HSV HW0 HVW
      have hvc : steps.length ≤ vc ∧ vc ≤ 9223372036854775807 := hwv.cap
      have hsl : steps.length ≤ 1000000 := HSV.out.1
      clear hv hwv w0
      go_wp2_with fail
      clear e2
      generalize hG : wr.heap.size = G at *
      have HEG := Lib.hid hG
      clear hG
      generalize wr = Wv at *
      go_loopw [5, 6] (fun v i wx => ∃ (j : Nat) (A : Option Addr) (c : Nat) (T : List StV), j ≤ steps.length ∧ i = .int .i64 j ∧ v = .slice A j c ∧ Hid ((OwnS wx G A j c T ∧ ∀ s ∈ T, Sc.Own wx G s.A s.parts.length s.c s.parts) ∧ T.map StV.st = (steps.take j).map StV.st ∧ Below G Wv wx)) (fun _ i _ => steps.length - (intOf i).toNat)
      case atStart => exact ⟨0, none, 0, [], Nat.zero_le _, rfl, rfl, Lib.hid ⟨⟨OwnS.nil _ _, fun s hs => (by cases hs)⟩, by simp, Below.refl _ _⟩⟩
      case round =>
        obtain ⟨j, A, c, T, hj, rfl, rfl, HJ⟩ := hrel
        have hGx : G ≤ wr.heap.size := by have := HJ.out.2.2.size; have := HEG.out; omega
        have hbw : Below pb w wr := HI.out.2.2.2.trans (HJ.out.2.2.mono (by omega))
        have y2 : wr.cell? ⟨pb, 2, none⟩ = some (.slice (some ⟨wb, woff, none⟩) waves.length wq) := cell_of_row _ _ 2 _ 30 (0, 0) ((HJ.out.2.2.block pb (by omega)).trans HI.out.2.2.1.1)
        have y0 : wr.cell? ⟨wb, woff + k, none⟩ = some (.slice VA steps.length vc) := (hbw.cell (p := ⟨wb, woff + k, none⟩) (by simp only; omega)).trans HW0.out
        have hkw : k < waves.length := hlt
        by_cases hlj : j < steps.length
        · obtain ⟨s, hs⟩ := Sc.get_some steps j hlj
          obtain ⟨stb, soff, rfl, hstb, s0, s1, hso⟩ := HWV.out.rd j s hs
          have HSX := Lib.hid (map_take_snoc StV.st hs)
          have h24 := HSV.out.2 s (List.mem_of_getElem? hs)
          obtain ⟨blk, PA, pc, parts⟩ := s
          simp only at s0 s1 h24
          have t0 : wr.cell? ⟨stb, soff + j * 2, none⟩ = some (.int .i64 blk) := (hbw.cell (p := ⟨stb, soff + j * 2, none⟩) (by simp only; omega)).trans s0
          have t1 : wr.cell? ⟨stb, soff + j * 2 + 1, none⟩ = some (.slice PA parts.length pc) := (hbw.cell (p := ⟨stb, soff + j * 2 + 1, none⟩) (by simp only; omega)).trans s1
          have hal : Below wr.heap.size wr (wr.alloc (.cells #[.int .i64 blk, .slice none 0 0] 78)) := (Below.refl _ _).alloc (Nat.le_refl _) _
          have hrp : Sc.Rd (wr.alloc (.cells #[.int .i64 blk, .slice none 0 0] 78)).drew (wr.alloc (.cells #[.int .i64 blk, .slice none 0 0] 78)).drew.heap.size PA parts := ((hso.rd.below hbw (Nat.le_refl _)).more (B' := wr.heap.size) (by omega)).below hal (Nat.le_refl _) |>.more (by simp)
          obtain ⟨A2, c2, w2, hrun, hown2, hb2⟩ := told_scraps _ PA parts.length pc parts rfl hrp hso.no h24
          have hrn : (Builtin.append_ #[76, 76] 76 #[.slice none 0 0, .slice PA parts.length pc]).run Tryz.prog (wr.alloc (.cells #[.int .i64 blk, .slice none 0 0] 78)).drew = .ok (.slice A2 parts.length c2) w2 := hrun
          have hrow : (wr.alloc (.cells #[.int .i64 blk, .slice none 0 0] 78)).heap[wr.heap.size]? = some (.cells #[.int .i64 blk, .slice none 0 0] 78 (0, 0)) := heap_alloc_new wr _
          have hrow2 : w2.heap[wr.heap.size]? = some (.cells #[.int .i64 blk, .slice none 0 0] 78 (0, 0)) := (hb2.block wr.heap.size (by simp)).trans hrow
          have b1 : (wr.alloc (.cells #[.int .i64 blk, .slice none 0 0] 78)).cell? ⟨wr.heap.size, 1, none⟩ = some (.slice none 0 0) := cell_of_row _ _ 1 _ 78 (0, 0) hrow
          have f1 : (wr.alloc (.cells #[.int .i64 blk, .slice none 0 0] 78)).frozen? ⟨wr.heap.size, 1, none⟩ = false := frozen_of_row _ _ 1 _ _ hrow
          have b12 : w2.cell? ⟨wr.heap.size, 1, none⟩ = some (.slice none 0 0) := cell_of_row _ _ 1 _ 78 (0, 0) hrow2
          have f12 : w2.frozen? ⟨wr.heap.size, 1, none⟩ = false := frozen_of_row _ _ 1 _ _ hrow2
          have HRP : Hid True := Lib.hid trivial
          have z0 : (wr.alloc (.cells #[.int .i64 blk, .slice none 0 0] 78)).cell? ⟨stb, soff + j * 2 + 1, none⟩ = some (.slice PA parts.length pc) := (hal.cell (p := ⟨stb, soff + j * 2 + 1, none⟩) (by simp only; omega)).trans t1
          have z1 : (wr.alloc (.cells #[.int .i64 blk, .slice none 0 0] 78)).cell? ⟨pb, 2, none⟩ = some (.slice (some ⟨wb, woff, none⟩) waves.length wq) := (hal.cell (p := ⟨pb, 2, none⟩) (by simp only; omega)).trans y2
          have z2 : (wr.alloc (.cells #[.int .i64 blk, .slice none 0 0] 78)).cell? ⟨wb, woff + k, none⟩ = some (.slice (some ⟨stb, soff, none⟩) steps.length vc) := (hal.cell (p := ⟨wb, woff + k, none⟩) (by simp only; omega)).trans y0
          have HOWN2 := Lib.hid hown2
          have HB2 := Lib.hid hb2
          have HROW2 := Lib.hid hrow2
          have HBW := Lib.hid hbw
          have HAL := Lib.hid hal
          have j0 : (0 : Int) ≤ (j : Int) := by omega
          have j1 : (j : Int) < (steps.length : Int) := by omega
          have j2 : (0 : Int) ≤ (k : Int) := by omega
          have j3 : (k : Int) < (waves.length : Int) := by omega
          clear hs s0 s1 hso hrp hrun hown2 hb2 hrow hrow2 hbw hal
          go_upto_region 11 with (fail)
          clear y0 y2 t0 t1
          go_region_law (refine step_append_told (by rfl) (.tmp 45) (.tmp 54) 76 (by rfl) _ _ _ (by rfl) (by rfl) hrn ?_)
          all_goals
            clear b1 f1 b12 f12 z0 z1 z2 hrn
            have h3 := heap_setCell_same w2 wr.heap.size 1 _ 78 (.slice A2 parts.length c2) HROW2.out
            have hb02 : Below wr.heap.size wr w2 := HAL.out.drew.trans (HB2.out.mono (by simp))
            have hb3 : Below wr.heap.size wr (w2.setCell ⟨wr.heap.size, 1, none⟩ (.slice A2 parts.length c2)) := hb02.setCell (by simp) _
            clear hb02
            have ho3 : Sc.Own (w2.setCell ⟨wr.heap.size, 1, none⟩ (.slice A2 parts.length c2)) (wr.heap.size + 1) A2 parts.length c2 parts := ⟨rfl, row_hi (Sc.Own.mono (base' := wr.heap.size + 1) HOWN2.out (by simp)).2 (Kt.of_box fun b hb _ => heap_setCell_other _ _ _ _ (by simp only; omega))⟩
            simp at h3
            have v0 : (w2.setCell ⟨wr.heap.size, 1, none⟩ (.slice A2 parts.length c2)).cell? ⟨wr.heap.size, 0, none⟩ = some (.int .i64 blk) := cell_of_row _ _ 0 _ 78 (0, 0) h3
            have v1 : (w2.setCell ⟨wr.heap.size, 1, none⟩ (.slice A2 parts.length c2)).cell? ⟨wr.heap.size, 1, none⟩ = some (.slice A2 parts.length c2) := cell_of_row _ _ 1 _ 78 (0, 0) h3
            have HB3 := Lib.hid hb3
            have HO3 := Lib.hid ho3
            have hsz3 : wr.heap.size < (w2.setCell ⟨wr.heap.size, 1, none⟩ (.slice A2 parts.length c2)).heap.size := (Array.getElem?_eq_some_iff.1 h3).1
            clear h3 hb3 ho3 HOWN2 HB2 HROW2 HAL
            generalize w2.setCell ⟨wr.heap.size, 1, none⟩ (.slice A2 parts.length c2) = W3 at *
            have HJ3 : Hid (OwnS W3 G A j c T) := Lib.hid (HJ.out.1.1.same fun b hb => HB3.out.block b (HJ.out.1.1.ty hb).2.1)
            go_wp2_with (at_builtin; refine wpList_append_own _ rfl (.tmp 57) (.tmp 59) 75 rfl G 78 q0 _ 2 32 Tryz.underlying75 qi qz0 qz1 qz2 rfl (by decide) (.slice A j c) j (stCells T) (by rfl) (HJ3.out.2.alloc _) ⟨W3.heap.size, 0, none⟩ 1 1 [.int .i64 blk, .slice A2 parts.length c2] (by rfl) (by rfl) (World.news_of_block (heap_alloc_new _ _)) (by simp [Value.oneCell']) (by unfold maxLen; omega) (by omega) (by simp; omega) ?_)
            intro v' w6 hown6 hgrow6 _
            obtain ⟨A6, c6, rfl, ho6⟩ := HJ3.out.push (s := ⟨blk, A2, c2, parts⟩) (by rw [stCells_one]; exact hown6) hgrow6
            have hb6 : Below G Wv w6 := (HJ.out.2.2.trans (HB3.out.mono hGx)).trans (((Below.refl G W3).alloc (by omega) _).grown hgrow6 (by simp; omega) (fun b hb => (HJ3.out.ty (own_in.1 hb)).1))
            have hpp : ∀ s ∈ T ++ [(⟨blk, A2, c2, parts⟩ : StV)], Sc.Own w6 G s.A s.parts.length s.c s.parts := by
              have far : ∀ b, b < W3.heap.size → (∃ cs, W3.heap[b]? = some (Obj.cells cs 80 (0, 0))) → w6.heap[b]? = W3.heap[b]? := fun b hb ⟨cs, hc⟩ => by
                rw [hgrow6.block b (by simp; omega) (fun e => by
                  obtain ⟨_, _, cs', hc'⟩ := HJ3.out.ty (own_in.1 e.symm)
                  rw [hc] at hc'
                  injection hc' with hc'
                  injection hc' with _ h1 _
                  cases h1)]
                exact heap_alloc_old _ _ hb
              intro s hs
              rcases List.mem_append.1 hs with hs | hs
              · have h1 := HJ.out.1.2 s hs
                have h2 : Sc.Own W3 G s.A s.parts.length s.c s.parts := h1.below HB3.out (Nat.le_refl _)
                exact ⟨h2.1, row_hi h2.2 (fun b _ hb hc => far b hb hc)⟩
              · simp at hs
                subst hs
                exact ⟨HO3.out.1, row_hi (Sc.Own.mono (base' := G) HO3.out (by omega)).2 (fun b _ hb hc => far b hb hc)⟩
            have HN : Hid ((OwnS w6 G A6 (j + 1) c6 (T ++ [⟨blk, A2, c2, parts⟩]) ∧ ∀ s ∈ T ++ [(⟨blk, A2, c2, parts⟩ : StV)], Sc.Own w6 G s.A s.parts.length s.c s.parts) ∧ (T ++ [(⟨blk, A2, c2, parts⟩ : StV)]).map StV.st = (steps.take (j + 1)).map StV.st ∧ Below G Wv w6) := Lib.hid ⟨⟨ho6, hpp⟩, by rw [HSX.out, List.map_append, HJ.out.2.1]; rfl, hb6⟩
            clear hown6 hgrow6 ho6 hb6 hpp v0 v1
            go_wp2_with fail
            go_roundw
            case measure => simp [intOf]; omega
            case rel => exact ⟨j + 1, A6, c6, _, by omega, by go_num, rfl, HN⟩
        · obtain rfl : j = steps.length := by omega
          clear hlj
          have hTL : T.length = steps.length := HJ.out.1.1.1
          rw [List.take_length] at HJ
          have HOV : Hid (OwnV wr (pb + 3) ⟨A, c, T⟩) := Lib.hid (OwnV.mono (base := G) ⟨by rw [hTL]; exact HJ.out.1.1, HJ.out.1.2⟩ (by omega))
          have HOP : Hid (OwnP wr (pb + 3) ⟨n, SA', sc', stash, WA', wc', Q⟩) := Lib.hid (HI.out.1.below HJ.out.2.2 (by rw [HEG.out]; exact Nat.le_refl _))
          have HAP : Hid (∀ u ∈ Q, ∀ b, inA A b → ¬ inA u.A b) := Lib.hid (fun u hu b hb hb2 => by
            have h1 := (HJ.out.1.1.ty hb).1
            have h2 := ((HI.out.1.ws u hu).row.ty hb2).2.1
            rw [HEG.out] at h2
            omega)
          have hbx : wr.heap[pb + 2]? = some (.cells #[.int .i64 n, .slice SA' stash.length sc', .slice WA' k wc'] 30 (0, 0)) := (HJ.out.2.2.block (pb + 2) (by omega)).trans HI.out.2.2.1.2.2
          have HBX : Hid (wr.heap[pb]? = some (.cells #[.int .i64 n, .slice SA stash.length sc, .slice (some ⟨wb, woff, none⟩) waves.length wq] 30 (0, 0)) ∧ wr.heap[pb + 1]? = some (.cells #[.int .i64 0, .slice none 0 0, .slice none 0 0] 30 (0, 0)) ∧ wr.heap[pb + 2]? = some (.cells #[.int .i64 n, .slice SA' stash.length sc', .slice WA' k wc'] 30 (0, 0))) := Lib.hid ⟨(HJ.out.2.2.block pb (by omega)).trans HI.out.2.2.1.1, (HJ.out.2.2.block (pb + 1) (by omega)).trans HI.out.2.2.1.2.1, hbx⟩
          have HBW := Lib.hid hbw
          have HTS := Lib.hid HJ.out.2.1
          have HWR : Hid (OwnW wr (pb + 3) WA' k wc' Q) := Lib.hid (by
            have h : OwnW wr (pb + 3) WA' Q.length wc' Q := HOP.out.wv
            rw [hQ] at h
            exact h)
          have g2 : wr.cell? ⟨pb + 2, 2, none⟩ = some (.slice WA' k wc') := cell_of_row _ _ 2 _ 30 (0, 0) hbx
          clear HJ hbw hbx
          go_wp2_with (at_builtin; refine wpList_append_own _ rfl (.tmp 62) (.tmp 64) 28 rfl (pb + 3) 75 k0 _ 1 24 Tryz.underlying28 ki kz0 kz1 kz2 rfl (by decide) (.slice WA' k wc') k (wvCells Q) (by rfl) (HWR.out.2.alloc _) ⟨wr.heap.size, 0, none⟩ 1 1 [.slice A steps.length c] (by rfl) (by rfl) (World.news_of_block (heap_alloc_new _ _)) (by simp [Value.oneCell']) (by unfold maxLen; omega) (by omega) (by simp; omega) ?_)
          intro v' w6 hown6 hgrow6 _
          obtain ⟨WA2, wc2, rfl⟩ : ∃ A cap, v' = .slice A (k + 1) cap := by
            rcases hown6.2 with ⟨hv, hn⟩ | ⟨g, cap', cur, hv, _⟩
            · cases hn
            · exact ⟨_, _, hv⟩
          have hal : Below wr.heap.size wr (wr.alloc (.cells #[.slice A steps.length c] 75)) := (Below.refl _ _).alloc (Nat.le_refl _) _
          have hop6 : OwnP w6 (pb + 3) ⟨n, SA', sc', stash, WA2, wc2, Q ++ [⟨A, c, T⟩]⟩ := OwnP.push (p := ⟨n, SA', sc', stash, WA', wc', Q⟩) HOP.out HOV.out HAP.out hal (by
            have e : wvCells [(⟨A, c, T⟩ : WvV)] = [.slice A steps.length c] := by simp [wvCells, hTL]
            rw [e]
            simp only [hQ]
            exact hown6) (by simp only [hQ]; exact hgrow6)
          have far6 : ∀ b : Nat, b < pb + 3 → w6.heap[b]? = wr.heap[b]? := fun b hb => by
            rw [hgrow6.block b (by simp; omega) (fun e => by have := (HWR.out.ty (own_in.1 e.symm)).1; omega)]
            exact heap_alloc_old _ _ (by omega)
          have hb6 : Below pb w w6 := (HBW.out.alloc (by omega) _).grown hgrow6 (by simp; omega) (fun b hb => by have := (HWR.out.ty (own_in.1 hb)).1; omega)
          have x2 := (far6 (pb + 2) (by omega)).trans HBX.out.2.2
          have g6 : w6.cell? ⟨pb + 2, 2, none⟩ = some (.slice WA' k wc') := cell_of_row _ _ 2 _ 30 (0, 0) x2
          have f6 : w6.frozen? ⟨pb + 2, 2, none⟩ = false := frozen_of_row _ _ 2 _ _ x2
          have e6 := heap_setCell_same w6 (pb + 2) 2 _ 30 (.slice WA2 (k + 1) wc2) x2
          have HN : Hid (OwnP (w6.setCell ⟨pb + 2, 2, none⟩ (.slice WA2 (k + 1) wc2)) (pb + 3) ⟨n, SA', sc', stash, WA2, wc2, Q ++ [⟨A, c, T⟩]⟩ ∧ (Q ++ [(⟨A, c, T⟩ : WvV)]).map WvV.wv = (waves.take (k + 1)).map WvV.wv ∧ ((w6.setCell ⟨pb + 2, 2, none⟩ (.slice WA2 (k + 1) wc2)).heap[pb]? = some (.cells #[.int .i64 n, .slice SA stash.length sc, .slice (some ⟨wb, woff, none⟩) waves.length wq] 30 (0, 0)) ∧ (w6.setCell ⟨pb + 2, 2, none⟩ (.slice WA2 (k + 1) wc2)).heap[pb + 1]? = some (.cells #[.int .i64 0, .slice none 0 0, .slice none 0 0] 30 (0, 0)) ∧ (w6.setCell ⟨pb + 2, 2, none⟩ (.slice WA2 (k + 1) wc2)).heap[pb + 2]? = some (.cells #[.int .i64 n, .slice SA' stash.length sc', .slice WA2 (k + 1) wc2] 30 (0, 0))) ∧ Below pb w (w6.setCell ⟨pb + 2, 2, none⟩ (.slice WA2 (k + 1) wc2))) :=
            Lib.hid ⟨hop6.box fun b hb _ => heap_setCell_other _ _ _ _ (by simp only; omega), by
              rw [HVW.out, List.map_append, HI.out.2.1]
              congr 1
              simp only [List.map_cons, List.map_nil, WvV.wv, HTS.out], ⟨(heap_setCell_other _ _ _ _ (by simp)).trans ((far6 pb (by omega)).trans HBX.out.1), (heap_setCell_other _ _ _ _ (by simp)).trans ((far6 (pb + 1) (by omega)).trans HBX.out.2.1), by rw [e6]; simp⟩, hb6.setCell (by simp) _⟩
          clear hown6 hgrow6 hal hop6 far6 hb6 x2 e6 g2
          go_wp2_with fail
          clear g6 f6
          go_roundw
          case measure => simp [intOf]; omega
          case rel => exact ⟨k + 1, WA2, wc2, _, by omega, by go_num, by simp [hQ], HN⟩
    · obtain rfl : k = waves.length := by omega
      clear hlt hk
      rw [List.take_length] at HI
      have c0 : wr.cell? ⟨pb + 2, 0, none⟩ = some (.int .i64 n) := cell_of_row _ _ 0 _ 30 (0, 0) HI.out.2.2.1.2.2
      have c1 : wr.cell? ⟨pb + 2, 1, none⟩ = some (.slice SA' stash.length sc') := cell_of_row _ _ 1 _ 30 (0, 0) HI.out.2.2.1.2.2
      have c2 : wr.cell? ⟨pb + 2, 2, none⟩ = some (.slice WA' waves.length wc') := cell_of_row _ _ 2 _ 30 (0, 0) HI.out.2.2.1.2.2
      have p0 : wr.cell? ⟨pb + 1, 0, none⟩ = some (.int .i64 0) := cell_of_row _ _ 0 _ 30 (0, 0) HI.out.2.2.1.2.1
      have p1 : wr.cell? ⟨pb + 1, 1, none⟩ = some (.slice none 0 0) := cell_of_row _ _ 1 _ 30 (0, 0) HI.out.2.2.1.2.1
      have p2 : wr.cell? ⟨pb + 1, 2, none⟩ = some (.slice none 0 0) := cell_of_row _ _ 2 _ 30 (0, 0) HI.out.2.2.1.2.1
      have z0 : wr.frozen? ⟨pb + 1, 0, none⟩ = false := frozen_of_row _ _ 0 _ _ HI.out.2.2.1.2.1
      have z1 : wr.frozen? ⟨pb + 1, 1, none⟩ = false := frozen_of_row _ _ 1 _ _ HI.out.2.2.1.2.1
      have z2 : wr.frozen? ⟨pb + 1, 2, none⟩ = false := frozen_of_row _ _ 2 _ _ HI.out.2.2.1.2.1
      go_wp2_with fail
      have hh := three_heap HI.out.2.2.1.2.1 (.int .i64 n) (.slice SA' stash.length sc') (.slice WA' waves.length wc')
      have hsame : ∀ b, b ≠ pb + 1 → (((wr.setCell ⟨pb + 1, 0, none⟩ (.int .i64 n)).setCell ⟨pb + 1, 1, none⟩ (.slice SA' stash.length sc')).setCell ⟨pb + 1, 2, none⟩ (.slice WA' waves.length wc')).heap[b]? = wr.heap[b]? := fun b hb => by
        rw [heap_setCell_other _ _ _ _ hb, heap_setCell_other _ _ _ _ hb, heap_setCell_other _ _ _ _ hb]
      have hop : OwnP (((wr.setCell ⟨pb + 1, 0, none⟩ (.int .i64 n)).setCell ⟨pb + 1, 1, none⟩ (.slice SA' stash.length sc')).setCell ⟨pb + 1, 2, none⟩ (.slice WA' waves.length wc')) pb ⟨n, SA', sc', stash, WA', wc', Q⟩ := (HI.out.1.box fun b hb _ => hsame b (by omega)).mono (by omega)
      have hbel : Below pb w (((wr.setCell ⟨pb + 1, 0, none⟩ (.int .i64 n)).setCell ⟨pb + 1, 1, none⟩ (.slice SA' stash.length sc')).setCell ⟨pb + 1, 2, none⟩ (.slice WA' waves.length wc')) := ((HI.out.2.2.2.setCell (p := ⟨pb + 1, 0, none⟩) (by simp) _).setCell (p := ⟨pb + 1, 1, none⟩) (by simp) _).setCell (p := ⟨pb + 1, 2, none⟩) (by simp) _
      generalize ((wr.setCell ⟨pb + 1, 0, none⟩ (.int .i64 n)).setCell ⟨pb + 1, 1, none⟩ (.slice SA' stash.length sc')).setCell ⟨pb + 1, 2, none⟩ (.slice WA' waves.length wc') = wf at *
      have e0 : wf.cell? ⟨pb + 1, 0, none⟩ = some (.int .i64 n) := cell_of_row _ _ 0 _ 30 (0, 0) hh
      have e1 : wf.cell? ⟨pb + 1, 1, none⟩ = some (.slice SA' stash.length sc') := cell_of_row _ _ 1 _ 30 (0, 0) hh
      have e2' : wf.cell? ⟨pb + 1, 2, none⟩ = some (.slice WA' waves.length wc') := cell_of_row _ _ 2 _ 30 (0, 0) hh
      refine bodyPost_ret (v := .agg #[.int .i64 n, .slice SA' stash.length sc', .slice WA' waves.length wc']) (by simp [results, Tryz.results12, go_sem, e0, e1, e2']) rfl ?_
      obtain rfl := HPB.out
      refine ⟨⟨⟨n, SA', sc', stash, WA', wc', Q⟩, by rw [← hQ], ?_, hop⟩, hbel⟩
      simp only [PlV.pln, HI.out.2.1]
end Go.Proofs.YtblibmalommdkaaGreat
