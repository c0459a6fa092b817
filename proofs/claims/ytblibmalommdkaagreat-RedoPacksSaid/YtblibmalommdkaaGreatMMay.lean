/-
  The reference's May: whether a plan may be run.
-/
import Derived.Test.YtblibmalommdkaaGreatMD
import Derived.Test.YtblibmalommdkaaGreatMCheck
import Derived.Test.YtblibmalommdkaaGreatSF
import Derived.Deep.RegionHeld3
namespace Go.Proofs.YtblibmalommdkaaGreat
open Go.RowKit
open Classical in
noncomputable def planB (p : Pln) (size tail : Int) : Bool := decide (PlanP p size tail)
theorem planB_of {p : Pln} {size tail : Int} (h : PlanP p size tail) : planB p size tail = true := by unfold planB; simpa using h
theorem planB_not {p : Pln} {size tail : Int} (h : ¬ PlanP p size tail) : planB p size tail = false := by unfold planB; simpa using h
set_option maxRecDepth 100000 in
set_option maxHeartbeats 4000000 in
/-- Where a step's parts are no joined list of the block's length. -/
theorem parts_ok {n : Int} {blk : Int} {parts : List S} : (Sc.MayP parts ∧ (Sc.joinL parts).length = parts.length ∧ Sc.tot parts = min 64 (n - 64 * blk)) ∨ ¬ (Sc.MayP parts ∧ (Sc.joinL parts).length = parts.length ∧ Sc.tot parts = min 64 (n - 64 * blk)) := Classical.em _
theorem wave_more {n size tail st : Int} {u : Int → Bool} {v : List Stp} {j : Nat} {s : Stp} (hs : v[j]? = some s) (h : (∀ x ∈ v.take j, StepP n size tail st u x) ∧ FreshP u (v.take j)) (hp : StepP n size tail st u s) (hu : u s.1 = false) (ha : (v.take j).any (fun x => x.1 == s.1) = false) :
    (∀ x ∈ v.take (j + 1), StepP n size tail st u x) ∧ FreshP u (v.take (j + 1)) := by
  rw [Sc.take_snoc v j s hs]
  refine ⟨fun x hx => ?_, (fresh_append _ _ u).2 ⟨h.2, ?_, trivial⟩⟩
  · rcases List.mem_append.1 hx with hx | hx
    · exact h.1 x hx
    · simp at hx; rw [hx]; exact hp
  · rw [wrote_at, hu, ha]; rfl
theorem wave_bad {u : Int → Bool} {v : List Stp} {j : Nat} {s : Stp} (hs : v[j]? = some s) (hd : u s.1 = true ∨ (v.take j).any (fun x => x.1 == s.1) = true) : ¬ FreshP u v := by
  intro h
  have h1 : FreshP u (v.take (j + 1) ++ v.drop (j + 1)) := by rw [List.take_append_drop]; exact h
  have h2 := ((fresh_append _ _ u).1 h1).1
  rw [Sc.take_snoc v j s hs] at h2
  have h3 := ((fresh_append _ _ u).1 h2).2.1
  rw [wrote_at] at h3
  rcases hd with h | h <;> simp [h] at h3
/-- What May has in memory beside the plan: its box. -/
structure Cm (w0 w : World) (p : PlV) : Prop where
  low : Below w0.heap.size w0 w
  box : w.heap[w0.heap.size]? = some (.cells p.cells 30 (0, 0))
theorem Cm.up {w0 w w' : World} {p : PlV} (h : Cm w0 w p) (hb : Below w.heap.size w w') : Cm w0 w' p :=
  ⟨h.low.trans (hb.mono h.low.size), (hb.block _ (Array.getElem?_eq_some_iff.1 h.box).1).trans h.box⟩
theorem Cm.cells {w0 w : World} {p : PlV} (h : Cm w0 w p) : w.cell? ⟨w0.heap.size, 0, none⟩ = some (.int .i64 p.size) ∧ w.cell? ⟨w0.heap.size, 1, none⟩ = some (.slice p.SA p.stash.length p.sc) ∧ w.cell? ⟨w0.heap.size, 2, none⟩ = some (.slice p.WA p.waves.length p.wc) :=
  ⟨cell_of_row _ _ 0 _ 30 (0, 0) h.box, cell_of_row _ _ 1 _ 30 (0, 0) h.box, cell_of_row _ _ 2 _ 30 (0, 0) h.box⟩
open Classical in
noncomputable def badB (n blk : Int) (parts : List S) : Bool := decide (¬ (Sc.MayP parts ∧ (Sc.joinL parts).length = parts.length ∧ Sc.tot parts = min 64 (n - 64 * blk)))
open Classical in
theorem badB_of {n blk : Int} {parts : List S} (h : ¬ (Sc.MayP parts ∧ (Sc.joinL parts).length = parts.length ∧ Sc.tot parts = min 64 (n - 64 * blk))) : badB n blk parts = true := by unfold badB; exact decide_eq_true h
open Classical in
theorem badB_not {n blk : Int} {parts : List S} (h : Sc.MayP parts ∧ (Sc.joinL parts).length = parts.length ∧ Sc.tot parts = min 64 (n - 64 * blk)) : badB n blk parts = false := by unfold badB; exact decide_eq_false fun h' => h' h
open Classical in
theorem badB_false {n blk : Int} {parts : List S} (h : badB n blk parts = false) : Sc.MayP parts ∧ (Sc.joinL parts).length = parts.length ∧ Sc.tot parts = min 64 (n - 64 * blk) := by
  unfold badB at h
  exact Classical.not_not.1 (of_decide_eq_false h)
/-- Behind the first k operations of a region that draws its order, under S: the others in the text's order, in every world of a class. -/
theorem wpAnyH_of_quiet {P : Program} {md : Region.Mode} {ops : Array Oper} {C S : World → Prop} {Q : Act → Prop} {Q' : Exit → Act → World → Prop} (hS : ∀ w, C w → S w) (hQ : ∀ a w, C w → Q a → Q' .normal a w) : ∀ (fuel : Nat) (listed : Array Bool) (a : Act) (w : World), C w →
    wpAnyQ P md ops C Q fuel listed a → wpAnyH P md ops Q' S fuel listed a w
  | 0, _, _, _, hw, h => ⟨h.1, hQ _ _ hw h.2⟩
  | fuel + 1, _, _, _, hw, h => ⟨fun h0 => hQ _ _ hw (h.1 h0), fun i hi => wpOp_of_qOp hw (fun a' w' hw' h' => ⟨hS _ hw', wpAnyH_of_quiet hS hQ fuel _ a' w' hw' h'⟩) (h.2 i hi)⟩
theorem wpAnyH_rest {P : Program} {md : Region.Mode} {xs : List Oper} {C S : World → Prop} {Q' : Exit → Act → World → Prop} {fuel : Nat} {listed : Array Bool} {a : Act} {w : World} (k : Nat) (hs : Region.noSelect xs.toArray = true) (hf : fuel = (xs.drop k).length)
    (hB : Region.lexFrom md xs.toArray (xs.drop k).length k listed = true) (hC : C w) (hS : ∀ w, C w → S w) (h : wpQuiet P xs.toArray C (fun a' => ∀ w', C w' → Q' .normal a' w') (xs.drop k) a) : wpAnyH P md xs.toArray Q' S fuel listed a w := by
  refine wpAnyH_of_quiet (C := C) (Q := fun a' => ∀ w', C w' → Q' .normal a' w') hS (fun _ w' hw' h => h w' hw') _ _ _ _ hC ?_
  rw [hf]
  exact wpAnyQ_lex hs (xs.drop k) k listed a (fun j => by rw [List.getElem?_drop]; simp) hB h
set_option maxRecDepth 100000 in
set_option maxHeartbeats 4000000 in
theorem may_head (p : PlV) (size tail : Int) (w : World) (hP : PlOk w w.heap.size p) (hb : p.size < 0 ∨ 1048576 < p.size ∨ ¬ Right p.stash) (hn : p.stash.length ≤ 100000) :
    Calls Tryz.prog 51 #[.agg p.cells, .int .i64 size, .int .i64 tail] w fun e w' => e = .returned (.bool false) ∧ Below w.heap.size w w' := by
  obtain ⟨n, SA, sc, stash, WA, wq, waves⟩ := p
  unfold PlV.cells at *
  simp only at *
  have hb1 : Below w.heap.size w (w.alloc (.cells #[.int .i64 n, .slice SA stash.length sc, .slice WA waves.length wq] 30)) := (Below.refl _ _).alloc (Nat.le_refl _) _
  have HB := Lib.hid hb1
  have HR := Lib.hid (RefRight_any SA stash.length sc _ stash rfl (hP.up hb1).st hP.si hn)
  clear hb1 hP
  by_cases h1 : n < 0
  · clear hb
    go_enter Tryz.func51, Tryz.ntmps51
    go_wp2_with fail
    go_ret
    exact ⟨rfl, HB.out⟩
  by_cases h2 : 1048576 < n
  · clear hb
    go_enter Tryz.func51, Tryz.ntmps51
    go_wp2_with fail
    go_ret
    exact ⟨rfl, HB.out⟩
  have h3 : ¬ Right stash := by
    rcases hb with h | h | h
    · exact absurd h h1
    · exact absurd h h2
    · exact h
  have HRB := Lib.hid (rightB_not h3)
  clear hb h3
  go_enter Tryz.func51, Tryz.ntmps51
  go_wp2_with fail
  refine HR.out.mono ?_
  rw [HRB.out]
  rintro e w1 ⟨rfl, hb2⟩
  have HB2 := Lib.hid (HB.out.trans (hb2.mono HB.out.size))
  clear hb2
  go_wp2_with fail
  go_ret
  exact ⟨rfl, HB2.out⟩
set_option maxRecDepth 100000 in
set_option maxHeartbeats 8000000 in
theorem may_main (p : PlV) (size tail : Int) (w : World) (hP : PlOk w w.heap.size p) (hs : 0 ≤ size ∧ size ≤ 9223372036854775807) (ht : 0 ≤ tail ∧ tail ≤ 9223372036854775807) (h1 : 0 ≤ p.size) (h2 : p.size ≤ 1048576) (hR : Right p.stash) (hn : p.stash.length ≤ 100000) (hw : p.waves.length ≤ 1000000) :
    Calls Tryz.prog 51 #[.agg p.cells, .int .i64 size, .int .i64 tail] w fun e w' => e = .returned (.bool (planB p.pln size tail)) ∧ Below w.heap.size w w' := by
  have hyes : PlanP p.pln size tail → planB p.pln size tail = true := planB_of
  have hno : ¬ PlanP p.pln size tail → planB p.pln size tail = false := planB_not
  have hPW : PlanP p.pln size tail ↔ (∀ r ∈ p.stash, r.2 ≤ size) ∧ WavesP p.size size tail (tot p.stash) (fun _ => false) p.pln.waves := ⟨fun h => ⟨h.2.2.2.1, h.2.2.2.2⟩, fun h => ⟨h1, h2, hR, h.1, h.2⟩⟩
  have hb1 : Below w.heap.size w (w.alloc (.cells p.cells 30)) := (Below.refl _ _).alloc (Nat.le_refl _) _
  have HCM : Hid (Cm w (w.alloc (.cells p.cells 30)) p) := Lib.hid ⟨hb1, heap_alloc_new _ _⟩
  have HRT := Lib.hid (RefRight_any p.SA p.stash.length p.sc _ p.stash rfl (hP.up hb1).st hP.si hn)
  have HRB := Lib.hid (rightB_of hR)
  have HP := Lib.hid hP
  have HR := Lib.hid hR
  generalize planB p.pln size tail = pv at *
  generalize PlanP p.pln size tail = PP at *
  have HYES := Lib.hid hyes; have HNO := Lib.hid hno; have HPW := Lib.hid hPW
  clear hyes hno hPW hb1 hP hR
  have hcell : p.cells = #[.int .i64 p.size, .slice p.SA p.stash.length p.sc, .slice p.WA p.waves.length p.wc] := rfl
  have HCE := Lib.hid hcell
  rw [hcell] at HCM HRT ⊢
  clear hcell
  obtain ⟨d0, d1, d2⟩ := HCM.out.cells
  go_enter Tryz.func51, Tryz.ntmps51
  go_wp2_with fail
  refine HRT.out.mono ?_
  rw [HRB.out]
  rintro e w1 ⟨rfl, hb2⟩
  have HC1 := Lib.hid (HCM.out.up hb2)
  clear hb2 HRT HRB HCM d0 d1 d2
  obtain ⟨d0, d1, d2⟩ := HC1.out.cells
  go_wp2_with fail
  go_loopw [7] (fun i wr => ∃ k : Nat, k ≤ p.stash.length ∧ i = .int .i64 k ∧ Hid (∀ r ∈ p.stash.take k, r.2 ≤ size) ∧ wr = w1) (fun i _ => p.stash.length - (intOf i).toNat)
  case atStart => exact ⟨0, Nat.zero_le _, rfl, Lib.hid (fun r hr => by simp at hr), rfl⟩
  case round =>
    obtain ⟨k, hk, rfl, HK, rfl⟩ := hrel
    by_cases hlt : k < p.stash.length
    · obtain ⟨r, hr⟩ := Sc.get_some p.stash k hlt
      obtain ⟨b, off, hSA, hbb, c0, c1⟩ := (HP.out.st.below HC1.out.low (Nat.le_refl _)) k r hr
      have hin : r ∈ p.stash := List.mem_of_getElem? hr
      have htk := Sc.take_snoc p.stash k r hr
      rw [hSA] at d1
      by_cases hc : size < r.2
      · have HV : Hid (pv = false) := Lib.hid (HNO.out fun h => by have := (HPW.out.1 h).1 r hin; omega)
        clear hin htk
        go_wp2_with fail
        go_ret
        exact ⟨Sc.ret_bool HV.out.symm, HC1.out.low⟩
      · have HN : Hid (∀ x ∈ p.stash.take (k + 1), x.2 ≤ size) := Lib.hid (by
          rw [htk]
          intro x hx
          rcases List.mem_append.1 hx with hx | hx
          · exact HK.out x hx
          · simp at hx; rw [hx]; omega)
        clear hin htk
        go_wp2_with fail
        go_roundw
        case measure => simp [intOf]; omega
        case rel => exact ⟨k + 1, by omega, by go_num, HN, trivial⟩
    · obtain rfl : k = p.stash.length := by omega
      clear hlt
      have HST : Hid (∀ r ∈ p.stash, r.2 ≤ size) := Lib.hid (by have := HK.out; rwa [List.take_length] at this)
      clear HK hk
      have HPW2 : Hid (PP ↔ WavesP p.size size tail (tot p.stash) (fun _ => false) p.pln.waves) := Lib.hid ⟨fun h => (HPW.out.1 h).2, fun h => HPW.out.2 ⟨HST.out, h⟩⟩
      clear HPW
      go_wp2_with fail
      go_loopw [8] (fun i wx => ∃ k : Nat, k ≤ p.waves.length ∧ i = .int .i64 k ∧ Hid (Cm w wx p ∧ (PP ↔ WavesP p.size size tail (tot p.stash) (fun b => wrB p.pln.waves k b) (p.pln.waves.drop k)))) (fun i _ => p.waves.length - (intOf i).toNat)
      case atStart => exact ⟨0, Nat.zero_le _, rfl, Lib.hid ⟨HC1.out, by simpa [wrB] using HPW2.out⟩⟩
      case round =>
        clear HC1 d0 d1 d2
        obtain ⟨k, hk, rfl, HI⟩ := hrel
        obtain ⟨d0, d1, d2⟩ := HI.out.1.cells
        by_cases hlk : k < p.waves.length
        · obtain ⟨v, hv⟩ := Sc.get_some p.waves k hlk
          have hvW : p.pln.waves[k]? = some v.wv := by simp [PlV.pln, hv]
          obtain ⟨wb, woff, hWA, hwb, w00, hwv⟩ := HP.out.wv k v hv
          have w0 := (HI.out.1.low.cell (p := ⟨wb, woff + k, none⟩) hwb).trans w00
          clear w00
          rw [hWA] at d2
          have HWA := Lib.hid hWA
          clear hWA
          obtain ⟨VA, vc, steps⟩ := v
          simp only at w0
          have hwl : (WvV.wv ⟨VA, vc, steps⟩).length = steps.length := by simp [WvV.wv]
          have HVW := Lib.hid hvW
          have HWV1 := Lib.hid hwv
          have HBAD : Hid (¬ WaveP p.size size tail (tot p.stash) (fun b => wrB p.pln.waves k b) (WvV.wv ⟨VA, vc, steps⟩) → pv = false) := Lib.hid fun h => HNO.out (waves_stop HVW.out HI.out.2 h)
          have HVE : Hid (∀ (i : Nat) (s : StV), steps[i]? = some s → (WvV.wv ⟨VA, vc, steps⟩)[i]? = some s.st) := Lib.hid fun i s h => by simp [WvV.wv, h]
          clear hv hvW hwv
          by_cases hm0 : steps.length = 0
          · have HV : Hid (pv = false) := Lib.hid (HBAD.out fun h => by have := h.1; omega)
            rw [hm0] at w0
            go_wp2_with fail
            go_ret
            exact ⟨Sc.ret_bool HV.out.symm, HI.out.1.low⟩
          by_cases hm1 : 64 < steps.length
          · have HV : Hid (pv = false) := Lib.hid (HBAD.out fun h => by have := h.2.1; omega)
            have hm2 : (64 : Int) < (steps.length : Int) := by omega
            go_wp2_with fail
            go_ret
            exact ⟨Sc.ret_bool HV.out.symm, HI.out.1.low⟩
          have hm2 : ¬ (64 : Int) < (steps.length : Int) := by omega
          have hm3 : ¬ (steps.length : Int) < 1 := by omega
          generalize hvw : WvV.wv ⟨VA, vc, steps⟩ = vW at *
          have HVL := Lib.hid hwl
          have HVT : Hid (vW = steps.map StV.st) := Lib.hid (by rw [← hvw]; rfl)
          clear hvw hwl
          go_wp2_with fail
          clear w0
          go_loopw [10] (fun i wx => ∃ j : Nat, j ≤ steps.length ∧ i = .int .i64 j ∧ Hid (Cm w wx p ∧ (∀ s ∈ vW.take j, StepP p.size size tail (tot p.stash) (fun b => wrB p.pln.waves k b) s) ∧ FreshP (fun b => wrB p.pln.waves k b) (vW.take j))) (fun i _ => steps.length - (intOf i).toNat)
          case atStart => exact ⟨0, Nat.zero_le _, rfl, Lib.hid ⟨HI.out.1, fun s hs => by simp at hs, by rw [List.take_zero]; trivial⟩⟩
          case round =>
            clear d0 d1 d2
            obtain ⟨j, hj, rfl, HJ⟩ := hrel
            by_cases hlj : j < steps.length
            · obtain ⟨s, hs⟩ := Sc.get_some steps j hlj
              obtain ⟨b, off, hVA, hbb, c0, c1, hok⟩ := (HWV1.out.rd.below HJ.out.1.low (Nat.le_refl _)) j s hs
              simp only at hVA
              subst hVA
              have hsv := HVE.out j s hs
              obtain ⟨blk, PA, pc, parts⟩ := s
              simp only at c0 c1
              have hb1 : Below wr.heap.size wr (wr.alloc (.cells #[.int .i64 blk, .slice PA parts.length pc] 78)) := (Below.refl _ _).alloc (Nat.le_refl _) _
              have HCK1 := Lib.hid (HJ.out.1.up hb1)
              have HBX : Hid ((wr.alloc (.cells #[.int .i64 blk, .slice PA parts.length pc] 78)).heap[wr.heap.size]? = some (.cells #[.int .i64 blk, .slice PA parts.length pc] 78 (0, 0))) := Lib.hid (heap_alloc_new wr _)
              have HOK4 := Lib.hid ((hok.below hb1 HJ.out.1.low.size).more (Nat.le_trans HJ.out.1.low.size hb1.size))
              have hpl : parts.length ≤ 9223372036854775807 := Nat.le_trans hok.cap.1 hok.cap.2
              have HSV := Lib.hid hsv
              have hI := hok.b
              unfold I64 at hI
              simp only at hI
              have HBAD2 : Hid (¬ StepP p.size size tail (tot p.stash) (fun b => wrB p.pln.waves k b) (blk, parts) → pv = false) := Lib.hid fun h => HBAD.out fun hw => h (hw.2.2.1 _ (List.mem_of_getElem? HSV.out))
              have HBAD3 : Hid ((wrB p.pln.waves k blk = true ∨ (vW.take j).any (fun x => x.1 == blk) = true) → pv = false) := Lib.hid fun h => HBAD.out fun hw => wave_bad HSV.out h hw.2.2.2
              clear hs hsv hb1
              go_upto_region 18 with (fail)
              clear hok c0 c1
              generalize hvb : wr.heap.size = vb at *
              generalize wr.alloc (.cells #[.int .i64 blk, .slice PA parts.length pc] 78) = W4 at *
              have hx0 := cell_of_row _ _ 0 _ 78 (0, 0) HBX.out
              have x0 : ∀ q : Qs W4, q.1.cell? ⟨vb, 0, Option.none⟩ = some (.int .i64 blk) := fun q => q.cell hx0
              have p0 : ∀ q : Qs W4, q.1.cell? ⟨w.heap.size, 0, Option.none⟩ = some (.int .i64 p.size) := fun q => q.cell HCK1.out.cells.1
              have p1 : ∀ q : Qs W4, q.1.cell? ⟨w.heap.size, 1, Option.none⟩ = some (.slice p.SA p.stash.length p.sc) := fun q => q.cell HCK1.out.cells.2.1
              have p2 : ∀ q : Qs W4, q.1.cell? ⟨w.heap.size, 2, Option.none⟩ = some (.slice p.WA p.waves.length p.wc) := fun q => q.cell HCK1.out.cells.2.2
              clear hx0
              have hBl : ∀ q : Qs W4, Calls Tryz.prog 68 #[.int .i64 p.size] q.1 fun e w'' => e = .returned (.int .i64 (blocksN p.size)) ∧ ∃ q' : Qs W4, w'' = q'.1 := fun q => q.calls_same (Blocks_any p.size q.1 h1 (by omega))
              have hWr : ∀ q : Qs W4, Calls Tryz.prog 69 #[.agg #[.int .i64 p.size, .slice p.SA p.stash.length p.sc, .slice p.WA p.waves.length p.wc], .int .i64 k, .int .i64 blk] q.1 fun e w'' => e = .returned (.bool (wrB p.pln.waves k blk)) ∧ ∃ q' : Qs W4, w'' = q'.1 := fun q => by
                rw [← HCE.out]
                exact q.calls (written_any p k blk q.1 ((HP.out.below (HCK1.out.up q.2).low (Nat.le_refl _)).more (HCK1.out.up q.2).low.size) hk hw)
              by_cases k1 : blk < 0
              · have HV : Hid (pv = false) := Lib.hid (HBAD2.out fun h => by have h0 : 0 ≤ blk := h.1; omega)
                have kb : decide (blk < 0) = true := decide_eq_true k1
                refine wp_region_below (by kernel_rfl) (by kernel_rfl) ?_
                repeat (go_big_quiet_step (first | exact hBl _ | exact hWr _))
                refine wpQuiet_nil ?_
                rintro _ ⟨q, rfl⟩
                have HQ := Lib.hid (HCK1.out.up q.2)
                clear x0 p0 p1 p2 hBl hWr HCK1 HOK4 HBX
                generalize q.1 = W5 at *
                go_wp2_with fail
                go_ret
                exact ⟨Sc.ret_bool HV.out.symm, HQ.out.low⟩
              have kb1 : decide (blk < 0) = false := decide_eq_false k1
              by_cases k2 : blocksN p.size ≤ blk
              · have HV : Hid (pv = false) := Lib.hid (HBAD2.out fun h => by have h0 : blk < blocksN p.size := h.2.1; omega)
                have kb2 : decide (blocksN p.size ≤ blk) = true := decide_eq_true k2
                refine wp_region_below (by kernel_rfl) (by kernel_rfl) ?_
                repeat (go_big_quiet_step (first | exact hBl _ | exact hWr _))
                refine wpQuiet_nil ?_
                rintro _ ⟨q, rfl⟩
                have HQ := Lib.hid (HCK1.out.up q.2)
                clear x0 p0 p1 p2 hBl hWr HCK1 HOK4 HBX
                generalize q.1 = W5 at *
                go_wp2_with fail
                go_ret
                exact ⟨Sc.ret_bool HV.out.symm, HQ.out.low⟩
              have kb2 : decide (blocksN p.size ≤ blk) = false := decide_eq_false k2
              have kbl : blk < 20000 := by unfold blocksN at k2; omega
              cases k3 : wrB p.pln.waves k blk
              · rw [k3] at hWr
                refine wp_region_below (by kernel_rfl) (by kernel_rfl) ?_
                repeat (go_big_quiet_step (first | exact hBl _ | exact hWr _))
                refine wpQuiet_nil ?_
                rintro _ ⟨q, rfl⟩
                have HQ := Lib.hid (HCK1.out.up q.2)
                have HQB : Hid (q.1.heap[vb]? = some (.cells #[.int .i64 blk, .slice PA parts.length pc] 78 (0, 0))) := Lib.hid ((q.2.block _ (Array.getElem?_eq_some_iff.1 HBX.out).1).trans HBX.out)
                have HQO := Lib.hid ((HOK4.out.below q.2 (Nat.le_refl _)).more q.2.size)
                have HQD := Lib.hid (HWV1.out.below HQ.out.low (Nat.le_refl _))
                clear x0 p0 p1 p2 hBl hWr HCK1 HOK4 HBX
                generalize q.1 = W5 at *
                go_wp2_with fail
                go_loopw [12] (fun i wx => ∃ c : Nat, c ≤ j ∧ i = .int .i64 c ∧ Hid ((vW.take c).any (fun x => x.1 == blk) = false ∧ Below W5.heap.size W5 wx)) (fun i _ => j - (intOf i).toNat)
                case atStart => exact ⟨0, Nat.zero_le _, rfl, Lib.hid ⟨by simp, Below.refl _ _⟩⟩
                case round =>
                  obtain ⟨c, hc, rfl, HL⟩ := hrel
                  have HC5 := Lib.hid (HQ.out.up HL.out.2)
                  have HB5 : Hid (wr.heap[vb]? = some (.cells #[.int .i64 blk, .slice PA parts.length pc] 78 (0, 0))) := Lib.hid ((HL.out.2.block _ (Array.getElem?_eq_some_iff.1 HQB.out).1).trans HQB.out)
                  have hx0 : wr.cell? ⟨vb, 0, Option.none⟩ = some (.int .i64 blk) := cell_of_row _ _ 0 _ 78 (0, 0) HB5.out
                  by_cases hcj : c < j
                  · obtain ⟨t, ht5⟩ := Sc.get_some steps c (by omega)
                    obtain ⟨b5, off5, hbe, hb5, t0, _, _⟩ := (HWV1.out.rd.below HC5.out.low (Nat.le_refl _)) c t ht5
                    simp only [Option.some.injEq, Addr.mk.injEq] at hbe
                    obtain ⟨rfl, rfl, _⟩ := hbe
                    have hcl : c < steps.length := by omega
                    have htv := HVE.out c t ht5
                    have HAS := Lib.hid (any_step htv blk)
                    have HTV := Lib.hid htv
                    obtain ⟨blk5, PA5, pc5, parts5⟩ := t
                    simp only at t0
                    clear ht5 htv
                    have y0 : ∀ q : Qs wr, q.1.cell? ⟨vb, 0, Option.none⟩ = some (.int .i64 blk) := fun q => q.cell hx0
                    have y1 : ∀ q : Qs wr, q.1.cell? ⟨b, off + c * 2, Option.none⟩ = some (.int .i64 blk5) := fun q => q.cell t0
                    clear hx0 t0
                    by_cases hbk : blk5 = blk
                    · have HV : Hid (pv = false) := Lib.hid (HBAD3.out (Or.inr (by
                        rw [List.any_eq_true]
                        refine ⟨_, List.mem_of_getElem? (i := c) (by rw [List.getElem?_take, if_pos hcj]; exact HTV.out), by simp [StV.st, hbk]⟩)))
                      subst hbk
                      go_upto_region 23 with (fail)
                      refine wp_region_below (by kernel_rfl) (by kernel_rfl) ?_
                      repeat (go_big_quiet_step (fail))
                      refine wpQuiet_nil ?_
                      rintro _ ⟨q, rfl⟩
                      have HQ6 := Lib.hid (HC5.out.up q.2)
                      clear y0 y1
                      generalize q.1 = W6 at *
                      go_wp2_with fail
                      go_ret
                      exact ⟨Sc.ret_bool HV.out.symm, HQ6.out.low⟩
                    · have hb2 : (blk5 == blk) = false := by simpa using hbk
                      have HN : Hid ((vW.take (c + 1)).any (fun x => x.1 == blk) = false) := Lib.hid (by
                        rw [HAS.out, HL.out.1, Bool.false_or]
                        simpa [StV.st] using hbk)
                      clear hbk
                      go_upto_region 23 with (fail)
                      refine wp_region_below (by kernel_rfl) (by kernel_rfl) ?_
                      repeat (go_big_quiet_step (fail))
                      refine wpQuiet_nil ?_
                      rintro _ ⟨q, rfl⟩
                      have HQ6 := Lib.hid (HL.out.2.trans (q.2.mono HL.out.2.size))
                      clear y0 y1
                      generalize q.1 = W6 at *
                      go_wp2_with fail
                      go_roundw
                      case measure => simp [intOf]; omega
                      case rel => exact ⟨c + 1, by omega, by go_num, Lib.hid ⟨HN.out, HQ6.out⟩⟩
                  · obtain rfl : c = j := by omega
                    clear hcj hx0
                    have HO5 := Lib.hid ((HQO.out.below HL.out.2 (Nat.le_refl _)).more HL.out.2.size)
                    have HNO2 := Lib.hid HL.out.1
                    have hx0 := cell_of_row _ _ 0 _ 78 (0, 0) HB5.out
                    have hx1 := cell_of_row _ _ 1 _ 78 (0, 0) HB5.out
                    have hp0 := HC5.out.cells.1
                    clear HL HQ HQB HQO HQD
                    generalize hW7 : wr = W7 at *
                    clear hW7 wr
                    go_upto_region 25 with (fail)
                    have HT : Hid (∀ W, Below W7.heap.size W7 W → W.cell? ⟨vb, 0, Option.none⟩ = some (.int .i64 blk) ∧ W.cell? ⟨vb, 1, Option.none⟩ = some (.slice PA parts.length pc) ∧ W.cell? ⟨w.heap.size, 0, Option.none⟩ = some (.int .i64 p.size)) := Lib.hid fun W hW => ⟨Qs.cell ⟨W, hW⟩ hx0, Qs.cell ⟨W, hW⟩ hx1, Qs.cell ⟨W, hW⟩ hp0⟩
                    go_cut [130] (fun v wx => v = .bool (badB p.size blk parts) ∧ Hid (Below W7.heap.size W7 wx))
                    case first =>
                      by_cases m1 : Sc.MayP parts
                      · have hok1 := m1.1
                        have htt := m1.2
                        have HMB := Lib.hid (mayB_of m1)
                        have hMa : Hid (∀ W, Below W7.heap.size W7 W → Calls Tryz.prog 70 #[.slice PA parts.length pc] W fun e w'' => e = .returned (.bool true) ∧ Below W7.heap.size W7 w'') := Lib.hid fun W hW => by
                          rw [← HMB.out]
                          exact (Sc.refMay_any PA _ pc W parts rfl ((HO5.out.below hW (Nat.le_refl _)).more hW.size).rd hpl).mono fun e w2 h => ⟨h.1, hW.trans (h.2.mono hW.size)⟩
                        have hSi : Hid (∀ W, Below W7.heap.size W7 W → Calls Tryz.prog 72 #[.slice PA parts.length pc] W fun e w'' => e = .returned (.int .i64 (Sc.tot parts)) ∧ Below W.heap.size W w'') := Lib.hid fun W hW =>
                          Sc.refSize_any PA _ pc W parts rfl ((HO5.out.below hW (Nat.le_refl _)).more hW.size).rd hok1 htt
                        have hJo : Hid (∀ W, Below W7.heap.size W7 W → Calls Tryz.prog 71 #[.slice PA parts.length pc] W fun e w'' => (∃ A2 c2, e = .returned (.slice A2 (Sc.joinL parts).length c2)) ∧ Below W7.heap.size W7 w'') := Lib.hid fun W hW =>
                          (Sc.refJoin_any PA _ pc W parts rfl ((HO5.out.below hW (Nat.le_refl _)).more hW.size).rd hok1 htt).mono fun e w2 h => by
                            obtain ⟨⟨A2, n2, c2, rfl, ho⟩, hb⟩ := h
                            exact ⟨⟨A2, c2, by rw [ho.1]⟩, hW.trans (hb.mono hW.size)⟩
                        have M1 := Lib.hid m1
                        clear HMB hok1 htt m1
                        have q1 : IntKind.i64.wrap (64 * blk) = 64 * blk := IntWalk.i64_in _ (by omega)
                        have q2 : IntKind.i64.wrap (p.size - 64 * blk) = p.size - 64 * blk := IntWalk.i64_in _ (by omega)
                        refine wp_region_held_drew (S := fun w' => w'.cell? ⟨vb, 0, Option.none⟩ = some (.int .i64 blk) ∧ w'.cell? ⟨vb, 1, Option.none⟩ = some (.slice PA parts.length pc) ∧ w'.cell? ⟨w.heap.size, 0, Option.none⟩ = some (.int .i64 p.size)) (by kernel_rfl) (HT.out _ (belowDrewN (Below.refl _ _) 1)) ?_
                        intro hS0
                        (refine wpAnyH_take (i := 0) (v := ?_) rfl (by kernel_rfl) (by kernel_rfl) (by kernel_rfl) (fun _ _ _ h => h) (Or.inl ⟨by rfl, ?_⟩) (by assumption) ?_; rotate_left; (intro _w hSw; (try dsimp only at hSw); go_simp); (try with_reducible rfl); (try simp only [Act.put, List.setIfInBounds_toArray]))
                        (refine wpAnyH_take (i := 1) (v := ?_) rfl (by kernel_rfl) (by kernel_rfl) (by kernel_rfl) (fun _ _ _ h => h) (Or.inl ⟨by rfl, ?_⟩) (by assumption) ?_; rotate_left; (intro _w hSw; (try dsimp only at hSw); go_simp); (try with_reducible rfl); (try simp only [Act.put]))
                        refine wpAnyH_ready (rs := [2]) (by kernel_rfl) (by simp) ?_
                        refine AllReadyH.cons rfl (fun K hK => ?_) AllReadyH.nil
                        (try go_guarded)
                        (first | go_at_call 70 | (go_simp; go_at_call 70))
                        refine (hMa.out _ (belowDrewN (Below.refl _ _) 1)).mono ?_
                        rintro e wp1 ⟨rfl, hp1⟩
                        refine hK.out _ _ (HT.out _ hp1) (fun hS1 => ?_)
                        (try simp only [Act.put, List.setIfInBounds_toArray, List.set_cons_zero, List.set_cons_succ])
                        (refine wpAnyH_take (i := 3) (v := ?_) rfl (by kernel_rfl) (by kernel_rfl) (by kernel_rfl) (fun _ _ _ h => h) (Or.inl ⟨by rfl, ?_⟩) (by assumption) ?_; rotate_left; (intro _w hSw; (try dsimp only at hSw); go_simp); (try with_reducible rfl); (try simp only [Act.put, List.setIfInBounds_toArray]))
                        (refine wpAnyH_take (i := 4) (v := ?_) rfl (by kernel_rfl) (by kernel_rfl) (by kernel_rfl) (fun _ _ _ h => h) (Or.inl ⟨by rfl, ?_⟩) (by assumption) ?_; rotate_left; (intro _w hSw; (try dsimp only at hSw); go_simp); (try with_reducible rfl); (try simp only [Act.put]))
                        (refine wpAnyH_take (i := 5) (v := ?_) rfl (by kernel_rfl) (by kernel_rfl) (by kernel_rfl) (fun _ _ _ h => h) (Or.inl ⟨by rfl, ?_⟩) (by assumption) ?_; rotate_left; (intro _w hSw; (try dsimp only at hSw); go_simp); (try with_reducible rfl); (try simp only [Act.put]))
                        (refine wpAnyH_take (i := 6) (v := ?_) rfl (by kernel_rfl) (by kernel_rfl) (by kernel_rfl) (fun _ _ _ h => h) (Or.inl ⟨by rfl, ?_⟩) (by assumption) ?_; rotate_left; (intro _w hSw; (try dsimp only at hSw); go_simp); (try with_reducible rfl); (try simp only [Act.put]))
                        (refine wpAnyH_take (i := 9) (v := ?_) rfl (by kernel_rfl) (by kernel_rfl) (by kernel_rfl) (fun _ _ _ h => h) (Or.inl ⟨by rfl, ?_⟩) (by assumption) ?_; rotate_left; (intro _w hSw; (try dsimp only at hSw); go_simp); (try with_reducible rfl); (try simp only [Act.put]))
                        (refine wpAnyH_take (i := 10) (v := ?_) rfl (by kernel_rfl) (by kernel_rfl) (by kernel_rfl) (fun _ _ _ h => h) (Or.inl ⟨by rfl, ?_⟩) (by assumption) ?_; rotate_left; (intro _w hSw; (try dsimp only at hSw); go_simp); (try with_reducible rfl); (try simp only [Act.put]))
                        (refine wpAnyH_take (i := 11) (v := ?_) rfl (by kernel_rfl) (by kernel_rfl) (by kernel_rfl) (fun _ _ _ h => h) (Or.inl ⟨by rfl, ?_⟩) (by assumption) ?_; rotate_left; (intro _w hSw; (try dsimp only at hSw); go_simp); (try with_reducible rfl); (try simp only [Act.put]))
                        refine wpAnyH_ready (rs := [7]) (by kernel_rfl) (by simp) ?_
                        refine AllReadyH.cons rfl (fun K hK => ?_) AllReadyH.nil
                        (try go_guarded)
                        (first | go_at_call 71 | (go_simp; go_at_call 71))
                        refine (hJo.out _ hp1).mono ?_
                        rintro e wp2 ⟨⟨A2, c2, rfl⟩, hp2⟩
                        refine hK.out _ _ (HT.out _ hp2) (fun hS2 => ?_)
                        (try simp only [Act.put, List.setIfInBounds_toArray, List.set_cons_zero, List.set_cons_succ])
                        (refine wpAnyH_take (i := 8) (v := ?_) rfl (by kernel_rfl) (by kernel_rfl) (by kernel_rfl) (fun _ _ _ h => h) (Or.inl ⟨by rfl, ?_⟩) (by assumption) ?_; rotate_left; (intro _w hSw; (try dsimp only at hSw); go_simp); (try with_reducible rfl); (try simp only [Act.put, List.setIfInBounds_toArray]))
                        have y0 : ∀ q : Qs wp2, q.1.cell? ⟨vb, 0, Option.none⟩ = some (.int .i64 blk) := fun q => (HT.out _ (hp2.trans (q.2.mono hp2.size))).1
                        have y1 : ∀ q : Qs wp2, q.1.cell? ⟨vb, 1, Option.none⟩ = some (.slice PA parts.length pc) := fun q => (HT.out _ (hp2.trans (q.2.mono hp2.size))).2.1
                        have y2 : ∀ q : Qs wp2, q.1.cell? ⟨w.heap.size, 0, Option.none⟩ = some (.int .i64 p.size) := fun q => (HT.out _ (hp2.trans (q.2.mono hp2.size))).2.2
                        have hSq : ∀ q : Qs wp2, Calls Tryz.prog 72 #[.slice PA parts.length pc] q.1 fun e w'' => e = .returned (.int .i64 (Sc.tot parts)) ∧ ∃ q' : Qs wp2, w'' = q'.1 := fun q => q.calls (hSi.out _ (hp2.trans (q.2.mono hp2.size)))
                        have HP2 := Lib.hid hp2
                        refine wpAnyH_rest (C := fun W => ∃ q : Qs wp2, W = q.1) 12 (by kernel_rfl) (by kernel_rfl) (by kernel_rfl) ⟨⟨wp2, Below.refl _ _⟩, rfl⟩ (by rintro _ ⟨q, rfl⟩; exact HT.out _ (HP2.out.trans (q.2.mono HP2.out.size))) ?_
                        simp only [List.drop_succ_cons, List.drop_zero]
                        by_cases m2 : (Sc.joinL parts).length = parts.length
                        · have HV : Hid ((Sc.tot parts != min 64 (p.size - 64 * blk)) = badB p.size blk parts) := Lib.hid (by
                            by_cases m3 : Sc.tot parts = min 64 (p.size - 64 * blk)
                            · rw [badB_not ⟨M1.out, m2, m3⟩]; simpa using m3
                            · rw [badB_of fun h => m3 h.2.2]; simpa using m3)
                          quiet_step (fail)
                          repeat (go_big_quiet_step (first | exact hSq _))
                          refine wpQuiet_nil ?_
                          rintro _ ⟨q, rfl⟩
                          have HQ6 := Lib.hid (HP2.out.trans (q.2.mono HP2.out.size))
                          clear y0 y1 y2 hSq HT hS0 hS1 hS2 HP2 m2
                          generalize q.1 = W8 at *
                          go_wp2_with fail
                          go_meet
                          exact ⟨congrArg Value.bool HV.out, HQ6⟩
                        · have HV : Hid (true = badB p.size blk parts) := Lib.hid (badB_of fun h => m2 h.2.1).symm
                          generalize (Sc.joinL parts).length = jl at *
                          have kj : ((jl : Int) == (parts.length : Int)) = false := by simp; omega
                          have kn : ((jl : Int) != (parts.length : Int)) = true := by simp; omega
                          have k6 : (jl == parts.length) = false := by simpa using m2
                          have k7 : (jl != parts.length) = true := by simpa using m2
                          have k8 : decide (jl = parts.length) = false := by simpa using m2
                          have k9 : decide ((jl : Int) = (parts.length : Int)) = false := by simp; omega
                          quiet_step (fail)
                          repeat (go_big_quiet_step (first | exact hSq _))
                          refine wpQuiet_nil ?_
                          rintro _ ⟨q, rfl⟩
                          have HQ6 := Lib.hid (HP2.out.trans (q.2.mono HP2.out.size))
                          clear y0 y1 y2 hSq HT hS0 hS1 hS2 HP2 kj kn k6 k7 k8 k9
                          generalize q.1 = W8 at *
                          go_wp2_with fail
                          go_meet
                          exact ⟨congrArg Value.bool HV.out, HQ6⟩
                      · have HV : Hid (true = badB p.size blk parts) := Lib.hid (badB_of fun h => m1 h.1).symm
                        have HMB := Lib.hid (Sc.mayB_not m1)
                        have x0 : ∀ q : Qs W7, q.1.cell? ⟨vb, 0, Option.none⟩ = some (.int .i64 blk) := fun q => (HT.out q.1 q.2).1
                        have x1 : ∀ q : Qs W7, q.1.cell? ⟨vb, 1, Option.none⟩ = some (.slice PA parts.length pc) := fun q => (HT.out q.1 q.2).2.1
                        have hMa : ∀ q : Qs W7, Calls Tryz.prog 70 #[.slice PA parts.length pc] q.1 fun e w'' => e = .returned (.bool false) ∧ ∃ q' : Qs W7, w'' = q'.1 := fun q => by
                          rw [← HMB.out]
                          exact q.calls (Sc.refMay_any PA _ pc q.1 parts rfl ((HO5.out.below q.2 (Nat.le_refl _)).more q.2.size).rd hpl)
                        refine wp_region_below (by kernel_rfl) (by kernel_rfl) ?_
                        repeat (go_big_quiet_step (first | exact hMa _))
                        refine wpQuiet_nil ?_
                        rintro _ ⟨q, rfl⟩
                        have HQ6 := Lib.hid q.2
                        clear x0 x1 hMa HT
                        generalize q.1 = W8 at *
                        go_wp2_with fail
                        go_meet
                        exact ⟨congrArg Value.bool HV.out, HQ6⟩
                    case rest =>
                      obtain ⟨rfl, HX⟩ := hcut
                      cases hbad : badB p.size blk parts
                      · obtain ⟨hM1, hM2, hM3⟩ := badB_false hbad
                        have hoks := hM1.1
                        have HM := Lib.hid (And.intro hM1 (And.intro hM2 hM3))
                        have HBAD4 : Hid (¬ (∀ x ∈ parts, PartP size tail (tot p.stash) (fun b => wrB p.pln.waves k b) x) → pv = false) := Lib.hid fun h => HBAD2.out fun hw => h hw.2.2.2.2.2
                        have HC6 := Lib.hid (HC5.out.up HX.out)
                        have HB6 : Hid (wc.heap[vb]? = some (.cells #[.int .i64 blk, .slice PA parts.length pc] 78 (0, 0))) := Lib.hid ((HX.out.block _ (Array.getElem?_eq_some_iff.1 HB5.out).1).trans HB5.out)
                        have HO6 := Lib.hid ((HO5.out.below HX.out (Nat.le_refl _)).more HX.out.size)
                        have HOKS := Lib.hid hoks
                        clear HT hx0 hx1 hp0 HX HC5 HB5 HO5 hM1 hM2 hM3 hoks hbad
                        have hx1 : wc.cell? ⟨vb, 1, Option.none⟩ = some (.slice PA parts.length pc) := cell_of_row _ _ 1 _ 78 (0, 0) HB6.out
                        go_wp2_with fail
                        clear hx1
                        go_loopw [13] (fun i wx => ∃ m : Nat, m ≤ parts.length ∧ i = .int .i64 m ∧ Hid ((∀ x ∈ parts.take m, PartP size tail (tot p.stash) (fun b => wrB p.pln.waves k b) x) ∧ Below wc.heap.size wc wx)) (fun i _ => parts.length - (intOf i).toNat)
                        case atStart => exact ⟨0, Nat.zero_le _, rfl, Lib.hid ⟨fun x hx => by simp at hx, Below.refl _ _⟩⟩
                        case round =>
                          obtain ⟨m, hm, rfl, HL⟩ := hrel
                          have HC7 := Lib.hid (HC6.out.up HL.out.2)
                          have HO7 := Lib.hid ((HO6.out.below HL.out.2 (Nat.le_refl _)).more HL.out.2.size)
                          have hx1 : wr.cell? ⟨vb, 1, Option.none⟩ = some (.slice PA parts.length pc) := (Qs.cell (w := wc) ⟨wr, HL.out.2⟩ (cell_of_row _ _ 1 _ 78 (0, 0) HB6.out))
                          by_cases hlm : m < parts.length
                          · obtain ⟨x, hx⟩ := Sc.get_some parts m hlm
                            obtain ⟨xb, xo, rfl, hxb, c0, c1, c2⟩ := HO7.out.rd m x hx
                            have hxin : x ∈ parts := List.mem_of_getElem? hx
                            have hxok := HOKS.out x hxin
                            have htk := Sc.take_snoc parts m x hx
                            obtain ⟨hp0, hp1, hp2⟩ := HC7.out.cells
                            go_upto_region 30 with (fail)
                            have x1 : ∀ q : Qs wr, q.1.cell? ⟨vb, 1, Option.none⟩ = some (.slice (some ⟨xb, xo, Option.none⟩) parts.length pc) := fun q => q.cell hx1
                            have y0 : ∀ q : Qs wr, q.1.cell? ⟨w.heap.size, 0, Option.none⟩ = some (.int .i64 p.size) := fun q => q.cell hp0
                            have y1 : ∀ q : Qs wr, q.1.cell? ⟨w.heap.size, 1, Option.none⟩ = some (.slice p.SA p.stash.length p.sc) := fun q => q.cell hp1
                            have y2 : ∀ q : Qs wr, q.1.cell? ⟨w.heap.size, 2, Option.none⟩ = some (.slice p.WA p.waves.length p.wc) := fun q => q.cell hp2
                            have z0 : ∀ q : Qs wr, q.1.cell? ⟨xb, xo + m * 3, Option.none⟩ = some (.int .i64 x.src) := fun q => q.cell c0
                            have z1 : ∀ q : Qs wr, q.1.cell? ⟨xb, xo + m * 3 + 1, Option.none⟩ = some (.int .i64 x.at_) := fun q => q.cell c1
                            have z2 : ∀ q : Qs wr, q.1.cell? ⟨xb, xo + m * 3 + 2, Option.none⟩ = some (.int .i64 x.len) := fun q => q.cell c2
                            have hPt : ∀ q : Qs wr, Calls Tryz.prog 73 #[.agg #[.int .i64 p.size, .slice p.SA p.stash.length p.sc, .slice p.WA p.waves.length p.wc], .int .i64 k, .agg #[.int .i64 x.src, .int .i64 x.at_, .int .i64 x.len], .int .i64 size, .int .i64 tail] q.1 fun e w'' => e = .returned (.bool (partB p.pln k size tail x)) ∧ ∃ q' : Qs wr, w'' = q'.1 := fun q => by
                              rw [← HCE.out]
                              exact q.calls (part_any p k x size tail q.1 ((HP.out.below (HC7.out.up q.2).low (Nat.le_refl _)).more (HC7.out.up q.2).low.size) hxok hk hw HR.out HST.out hs.1 hs.2 ht.1 ht.2)
                            clear hx1 hp0 hp1 hp2 c0 c1 c2
                            cases hpb : partB p.pln k size tail x
                            · have HV : Hid (pv = false) := Lib.hid (HBAD4.out fun h => by
                                have := partB_of (p := p.pln) (h x hxin)
                                rw [hpb] at this
                                cases this)
                              rw [hpb] at hPt
                              clear hpb hxin htk hxok hx
                              refine wp_region_below (by kernel_rfl) (by kernel_rfl) ?_
                              repeat (go_big_quiet_step (first | exact hPt _))
                              refine wpQuiet_nil ?_
                              rintro _ ⟨q, rfl⟩
                              have HQ6 := Lib.hid (HC7.out.up q.2)
                              clear x1 y0 y1 y2 z0 z1 z2 hPt
                              generalize q.1 = W8 at *
                              go_wp2_with fail
                              go_ret
                              exact ⟨Sc.ret_bool HV.out.symm, HQ6.out.low⟩
                            · have HN : Hid (∀ x ∈ parts.take (m + 1), PartP size tail (tot p.stash) (fun b => wrB p.pln.waves k b) x) := Lib.hid (by
                                rw [htk]
                                intro y hy
                                rcases List.mem_append.1 hy with hy | hy
                                · exact HL.out.1 y hy
                                · simp at hy
                                  rw [hy]
                                  exact partB_iff.1 hpb)
                              rw [hpb] at hPt
                              clear hpb hxin htk hxok hx
                              refine wp_region_below (by kernel_rfl) (by kernel_rfl) ?_
                              repeat (go_big_quiet_step (first | exact hPt _))
                              refine wpQuiet_nil ?_
                              rintro _ ⟨q, rfl⟩
                              have HQ6 := Lib.hid (HL.out.2.trans (q.2.mono HL.out.2.size))
                              clear x1 y0 y1 y2 z0 z1 z2 hPt
                              generalize q.1 = W8 at *
                              go_wp2_with fail
                              go_roundw
                              case measure => simp [intOf]; omega
                              case rel => exact ⟨m + 1, by omega, by go_num, Lib.hid ⟨HN.out, HQ6.out⟩⟩
                          · obtain rfl : m = parts.length := by omega
                            clear hlm
                            have HST2 : Hid (StepP p.size size tail (tot p.stash) (fun b => wrB p.pln.waves k b) (blk, parts)) := Lib.hid ⟨k1, k2, HM.out.1, HM.out.2.1, HM.out.2.2, by have := HL.out.1; rwa [List.take_length] at this⟩
                            go_wp2_with fail
                            go_roundw
                            case measure => simp [intOf]; omega
                            case rel => exact ⟨c + 1, by omega, by go_num, Lib.hid ⟨HC7.out, wave_more HSV.out (And.intro HJ.out.2.1 HJ.out.2.2) HST2.out k3 HNO2.out⟩⟩
                      · have HV : Hid (pv = false) := Lib.hid (HBAD2.out fun h => by
                          rw [badB_not ⟨h.2.2.1, h.2.2.2.1, h.2.2.2.2.1⟩] at hbad
                          cases hbad)
                        have HQ6 := Lib.hid (HC5.out.up HX.out)
                        clear HT hx0 hx1 hp0
                        go_wp2_with fail
                        go_ret
                        exact ⟨Sc.ret_bool HV.out.symm, HQ6.out.low⟩
              · have HV : Hid (pv = false) := Lib.hid (HBAD3.out (Or.inl k3))
                rw [k3] at hWr
                refine wp_region_below (by kernel_rfl) (by kernel_rfl) ?_
                repeat (go_big_quiet_step (first | exact hBl _ | exact hWr _))
                refine wpQuiet_nil ?_
                rintro _ ⟨q, rfl⟩
                have HQ := Lib.hid (HCK1.out.up q.2)
                clear x0 p0 p1 p2 hBl hWr HCK1 HOK4 HBX
                generalize q.1 = W5 at *
                go_wp2_with fail
                go_ret
                exact ⟨Sc.ret_bool HV.out.symm, HQ.out.low⟩
            · obtain rfl : j = steps.length := by omega
              clear hlj
              have HWP : Hid (WaveP p.size size tail (tot p.stash) (fun b => wrB p.pln.waves k b) vW) := Lib.hid (by
                have h := HJ.out.2
                rw [List.take_of_length_le (Nat.le_of_eq HVL.out)] at h
                exact ⟨by have := HVL.out; omega, by have := HVL.out; omega, h.1, h.2⟩)
              have HNEXT : Hid (PP ↔ WavesP p.size size tail (tot p.stash) (fun b => wrB p.pln.waves (k + 1) b) (p.pln.waves.drop (k + 1))) := Lib.hid (by
                have h := waves_next HVW.out HI.out.2 HWP.out
                have e : wrote (fun b => wrB p.pln.waves k b) vW = fun b => wrB p.pln.waves (k + 1) b := by
                  funext b
                  rw [wrote_at, wrB_step HVW.out]
                rw [e] at h
                exact h)
              go_wp2_with fail
              go_roundw
              case measure => simp [intOf]; omega
              case rel =>
                exact ⟨k + 1, by omega, by go_num, Lib.hid ⟨HJ.out.1, HNEXT.out⟩⟩
        · obtain rfl : k = p.waves.length := by omega
          clear hlk
          have HV : Hid (pv = true) := Lib.hid (HYES.out (waves_end (by simp [PlV.pln]) HI.out.2))
          go_wp2_with fail
          go_ret
          exact ⟨Sc.ret_bool HV.out.symm, HI.out.1.low⟩
/-- The reference's May, of every plan that reads. -/
theorem May_any (p : PlV) (size tail : Int) (w : World) (hP : PlOk w w.heap.size p) (hs : 0 ≤ size ∧ size ≤ 9223372036854775807) (ht : 0 ≤ tail ∧ tail ≤ 9223372036854775807) (hn : p.stash.length ≤ 100000) (hw : p.waves.length ≤ 1000000) :
    Calls Tryz.prog 51 #[.agg p.cells, .int .i64 size, .int .i64 tail] w fun e w' => e = .returned (.bool (planB p.pln size tail)) ∧ Below w.heap.size w w' := by
  by_cases h : p.size < 0 ∨ 1048576 < p.size ∨ ¬ Right p.stash
  · rw [planB_not fun hp => by
      rcases h with h | h | h
      · have := hp.1; exact absurd this (by show ¬ 0 ≤ p.size; omega)
      · have := hp.2.1; exact absurd this (by show ¬ p.size ≤ 1048576; omega)
      · exact h hp.2.2.1]
    exact may_head p size tail w hP h hn
  · have hR : Right p.stash := by
      by_cases hR : Right p.stash
      · exact hR
      · exact absurd (.inr (.inr hR)) h
    exact may_main p size tail w hP hs ht (by omega) (by omega) hR hn hw
end Go.Proofs.YtblibmalommdkaaGreat
