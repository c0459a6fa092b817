/-
  What the reference's one answers: where a byte stands now.
-/
import Derived.Test.YtdpjblepcpjomaaWRefc
import Derived.Test.YtdpjblepcpjomaaWMove
namespace Go.Proofs.Ytdpjblepcpjomaa.Rb
open Go.RowKit
theorem wrap_sub (x y : Int) (h0 : -9223372036854775808 ≤ x - y) (h1 : x - y ≤ 9223372036854775807) : IntKind.i64.wrap (IntKind.i64.wrap x - y) = x - y := by
  rw [IntKind.wrap_i64, IntKind.wrap_i64]; omega
def oneE : Option B → Ending
  | some x => .returned (.tuple #[.agg #[.int .i64 x.1, .int .i64 x.2, .int .i64 1], .bool true])
  | none => .returned (.tuple #[.agg #[.int .i64 0, .int .i64 0, .int .i64 0], .bool false])
theorem mv_place {TB : List B} {RS : List R} {a : Int} {x : B} (h : 0 ≤ posI TB x) : mv TB RS a x = some (0, posI TB x) := by
  unfold posI at *
  cases hp : pos TB x with
  | none => rw [hp] at h; simp at h
  | some p => rw [mv_some hp]
theorem pos_of_neg {TB : List B} {x : B} (h : posI TB x < 0) : pos TB x = none := pos_none.2 (posI_mem.1 h)
set_option maxHeartbeats 1600000 in
set_option maxRecDepth 100000 in
theorem refOne_any (A : Option Addr) (len cap : Nat) (Ar : Option Addr) (nr cr : Nat) (a sr y : Int) (w : World) (T : List S) (RS : List R) (hlen : T.length = len) (hr : Sc.Rd w w.heap.size A T) (hT : Sc.MayP T)
    (hlr : RS.length = nr) (hrr : Rd w w.heap.size Ar RS) (hmr : nr ≤ 100000) (hR : Right RS) (hN : Nn RS) (a0 : 0 ≤ a) (a1 : a + tot RS ≤ 1099511627776) (y0 : 0 ≤ y) (y1 : y ≤ 1099511627776) :
    Calls Try.prog 40 #[.slice A len cap, .slice Ar nr cr, .int .i64 a, .int .i64 sr, .int .i64 y] w fun e w' => e = oneE (mv (Sc.bts T) RS a (sr, y)) ∧ Below w.heap.size w w' := by
  have H := Lib.hid hlen; have HR := Lib.hid hr; have HT := Lib.hid hT; have HL := Lib.hid hlr; have RR := Lib.hid hrr; have SR := Lib.hid hR; have NR := Lib.hid hN
  clear hlen hr hT hlr hrr hR hN
  go_enter Try.func40, Try.ntmps40
  go_wp2_with fail
  have hb0 : Below w.heap.size w (w.alloc (.cells #[.int .i64 0, .int .i64 0, .int .i64 0] 56)) := (Below.refl _ _).alloc (Nat.le_refl _) _
  have HB0 := Lib.hid hb0
  have R0 := Lib.hid (HR.out.up hb0)
  have RR0 := Lib.hid (RR.out.up hb0)
  have hcx : ∀ i, (w.alloc (.cells #[.int .i64 0, .int .i64 0, .int .i64 0] 56)).cell? ⟨w.heap.size, i, none⟩ = (#[.int .i64 0, .int .i64 0, .int .i64 0] : Array Value)[i]? := fun i => cell_new _ _ _ _
  have hc0 : (w.alloc (.cells #[.int .i64 0, .int .i64 0, .int .i64 0] 56)).cell? ⟨w.heap.size, 0, none⟩ = some (.int .i64 0) := hcx 0
  have hc1 : (w.alloc (.cells #[.int .i64 0, .int .i64 0, .int .i64 0] 56)).cell? ⟨w.heap.size, 1, none⟩ = some (.int .i64 0) := hcx 1
  have hc2 : (w.alloc (.cells #[.int .i64 0, .int .i64 0, .int .i64 0] 56)).cell? ⟨w.heap.size, 2, none⟩ = some (.int .i64 0) := hcx 2
  have hf0 : ∀ i, (w.alloc (.cells #[.int .i64 0, .int .i64 0, .int .i64 0] 56)).frozen? ⟨w.heap.size, i, none⟩ = false := fun i => by unfold World.frozen?; rw [heap_alloc_new]; simp
  have hz0 : w.heap.size < (w.alloc (.cells #[.int .i64 0, .int .i64 0, .int .i64 0] 56)).heap.size := by simp
  have HC := Lib.hid (And.intro hc0 (And.intro hc1 hc2)); have HFz := Lib.hid hf0
  clear hb0 hcx hc0 hc1 hc2 hf0
  generalize (w.alloc (.cells #[.int .i64 0, .int .i64 0, .int .i64 0] 56)) = W0 at *
  refine (place_any A len cap sr y _ T H.out R0.out HT.out (by omega) y1).mono ?_
  rintro e w1 ⟨rfl, hb1⟩
  have z0 := (hb1.cell (p := ⟨w.heap.size, 0, none⟩) hz0).trans HC.out.1
  have z1 := (hb1.cell (p := ⟨w.heap.size, 1, none⟩) hz0).trans HC.out.2.1
  have z2 := (hb1.cell (p := ⟨w.heap.size, 2, none⟩) hz0).trans HC.out.2.2
  have f0 := (hb1.frozen (p := ⟨w.heap.size, 0, none⟩) hz0).trans (HFz.out 0)
  have f1 := (hb1.frozen (p := ⟨w.heap.size, 1, none⟩) hz0).trans (HFz.out 1)
  have f2 := (hb1.frozen (p := ⟨w.heap.size, 2, none⟩) hz0).trans (HFz.out 2)
  have hz1 : w.heap.size < w1.heap.size := Nat.lt_of_lt_of_le hz0 hb1.size
  have HB1 := Lib.hid (HB0.out.trans (hb1.mono (by omega)))
  have RR1 := Lib.hid (RR0.out.up hb1)
  clear hb1 HFz HC
  obtain ⟨P, hP⟩ : ∃ P, posI (Sc.bts T) (sr, y) = P := ⟨_, rfl⟩
  have HP := Lib.hid hP
  rw [hP]
  clear hP
  have hfin : ∀ (wx : World) (v0 v1 v2 : Value), Below w.heap.size w wx → Below w.heap.size w (((wx.setCell ⟨w.heap.size, 0, none⟩ v0).setCell ⟨w.heap.size, 1, none⟩ v1).setCell ⟨w.heap.size, 2, none⟩ v2) := fun wx v0 v1 v2 h => ((h.setCell (p := ⟨w.heap.size, 0, none⟩) (Nat.le_refl _) v0).setCell (p := ⟨w.heap.size, 1, none⟩) (Nat.le_refl _) v1).setCell (p := ⟨w.heap.size, 2, none⟩) (Nat.le_refl _) v2
  have HFIN := Lib.hid hfin
  clear hfin
  generalize hBB : w.heap.size = BB at *
  have HBB := Lib.hid hBB
  clear hBB
  by_cases p0 : 0 ≤ P
  · have HM := Lib.hid (show mv (Sc.bts T) RS a (sr, y) = some (0, P) by rw [← HP.out]; exact mv_place (by rw [HP.out]; exact p0))
    go_wp2_with fail
    obtain ⟨e0, e1, e2⟩ := (one_cells z0 z1 z2 hz1 (.int .i64 0) (.int .i64 P) (.int .i64 1) (.cells #[] 56)).1
    refine bodyPost_ret (v := .tuple #[.agg #[.int .i64 0, .int .i64 P, .int .i64 1], .bool true]) (by simp [results, Try.results40, go_sem, e0, e1, e2]) rfl ?_
    rw [HM.out]
    obtain rfl := HBB.out
    exact ⟨rfl, HFIN.out _ _ _ _ HB1.out⟩
  · have hpn := Lib.hid (pos_of_neg (show posI (Sc.bts T) (sr, y) < 0 by rw [HP.out]; omega))
    by_cases q : sr = 1
    · have HM := Lib.hid (show mv (Sc.bts T) RS a (sr, y) = some (1, y) by rw [mv_none hpn.out, if_pos q, q])
      subst q
      go_wp2_with fail
      obtain ⟨e0, e1, e2⟩ := (one_cells z0 z1 z2 hz1 (.int .i64 1) (.int .i64 y) (.int .i64 1) (.cells #[] 56)).1
      refine bodyPost_ret (v := .tuple #[.agg #[.int .i64 1, .int .i64 y, .int .i64 1], .bool true]) (by simp [results, Try.results40, go_sem, e0, e1, e2]) rfl ?_
      rw [HM.out]
      obtain rfl := HBB.out
      exact ⟨rfl, HFIN.out _ _ _ _ HB1.out⟩
    · have q' : (sr == 1) = false := by simpa using q
      have HM := Lib.hid (show mv (Sc.bts T) RS a (sr, y) = (below RS y).map fun d => (1, a + d) by rw [mv_none hpn.out, if_neg q])
      clear q
      go_wp2_with fail
      go_loopw [13, 14] (fun v i wr => ∃ j : Nat, j ≤ nr ∧ i = .int .i64 j ∧ v = .int .i64 (tot (RS.take j)) ∧ Hid (¬ In (RS.take j) y) ∧ Below (BB + 1) w1 wr) (fun _ i _ => nr - (intOf i).toNat)
      case atStart => exact ⟨0, Nat.zero_le _, rfl, rfl, Lib.hid (in_nil y), Below.refl _ _⟩
      case round =>
        obtain ⟨j, hj, rfl, rfl, HN, hb⟩ := hrel
        have y2 := (hb.cell (p := ⟨BB, 0, none⟩) (by show BB < BB + 1; omega)).trans z0
        have y3 := (hb.cell (p := ⟨BB, 1, none⟩) (by show BB < BB + 1; omega)).trans z1
        have y4 := (hb.cell (p := ⟨BB, 2, none⟩) (by show BB < BB + 1; omega)).trans z2
        have g0 := (hb.frozen (p := ⟨BB, 0, none⟩) (by show BB < BB + 1; omega)).trans f0
        have g1 := (hb.frozen (p := ⟨BB, 1, none⟩) (by show BB < BB + 1; omega)).trans f1
        have g2 := (hb.frozen (p := ⟨BB, 2, none⟩) (by show BB < BB + 1; omega)).trans f2
        have hz4 : BB < wr.heap.size := Nat.lt_of_lt_of_le hz1 hb.size
        have HBr := Lib.hid hb
        by_cases hlt : j < nr
        · obtain ⟨r, hr⟩ := get_some RS j (by have := HL.out; omega)
          obtain ⟨b, off, rfl, hb', c0, c1⟩ := (RR.out.below (HB1.out.trans (hb.mono (by omega))) (Nat.le_refl _)) j r hr
          have hn := NR.out r (List.mem_of_getElem? hr)
          have ht := tot_take_le SR.out hr
          have HSN := Lib.hid (show tot (RS.take (j+1)) = tot (RS.take j) + (r.2 - r.1) by rw [take_snoc RS j r hr, tot_snoc])
          have HN2 := Lib.hid (show ¬ (r.1 ≤ y ∧ y < r.2) → ¬ In (RS.take (j+1)) y by
            intro h hx
            rw [take_snoc RS j r hr, in_append, in_one] at hx
            exact hx.elim HN.out h)
          have HBel := Lib.hid (show r.1 ≤ y → y < r.2 → below RS y = some (tot (RS.take j) + y - r.1) from fun h1 h2 => below_at SR.out hr h1 h2)
          obtain ⟨Q, hQ⟩ : ∃ q, tot (RS.take j) = q := ⟨_, rfl⟩
          have HQ := Lib.hid hQ
          rw [hQ] at ht ⊢
          clear hQ hr hb
          have hw : IntKind.i64.wrap (IntKind.i64.wrap (Q + r.2) - r.1) = Q + r.2 - r.1 := wrap_sub _ _ (by omega) (by omega)
          by_cases q1 : r.1 ≤ y
          · by_cases q2 : y < r.2
            · have HM3 := Lib.hid (show mv (Sc.bts T) RS a (sr, y) = some (1, a + Q + y - r.1) by
                rw [HM.out, HBel.out q1 q2, HQ.out]
                show some (_, _) = _
                congr 2; omega)
              go_wp2_with fail
              obtain ⟨e0, e1, e2⟩ := (one_cells y2 y3 y4 hz4 (.int .i64 1) (.int .i64 (a + Q + y - r.1)) (.int .i64 1) (.cells #[] 56)).1
              refine bodyPost_ret (v := .tuple #[.agg #[.int .i64 1, .int .i64 (a + Q + y - r.1), .int .i64 1], .bool true]) (by simp [results, Try.results40, go_sem, e0, e1, e2]) rfl ?_
              rw [HM3.out]
              obtain rfl := HBB.out
              exact ⟨rfl, HFIN.out _ _ _ _ (HB1.out.trans (HBr.out.mono (by omega)))⟩
            · have HN3 := Lib.hid (HN2.out fun h => q2 h.2)
              go_wp2_with fail
              go_quiet (fail)
              go_wp2_with fail
              go_roundw
              case rel => exact ⟨j+1, by omega, by go_num, by rw [HSN.out, HQ.out]; congr 1; omega, HN3, belowDrewN HBr.out _⟩
              case measure => simp [intOf]; omega
          · have HN3 := Lib.hid (HN2.out fun h => q1 h.1)
            go_wp2_with fail
            go_quiet (fail)
            go_wp2_with fail
            go_roundw
            case rel => exact ⟨j+1, by omega, by go_num, by rw [HSN.out, HQ.out]; congr 1; simp only [wrap64] at *; omega, HN3, belowDrewN HBr.out _⟩
            case measure => simp [intOf]; omega
        · obtain rfl : j = nr := by omega
          have e3 : RS.take j = RS := by rw [List.take_of_length_le (Nat.le_of_eq HL.out)]
          rw [e3] at HN
          have HM2 := Lib.hid (show mv (Sc.bts T) RS a (sr, y) = none by rw [HM.out, below_none HN.out]; rfl)
          clear hlt hb e3
          go_wp2_with fail
          obtain ⟨e0, e1, e2⟩ := (one_cells y2 y3 y4 hz4 (.int .i64 0) (.int .i64 0) (.int .i64 0) (.cells #[] 56)).1
          refine bodyPost_ret (v := .tuple #[.agg #[.int .i64 0, .int .i64 0, .int .i64 0], .bool false]) (by simp [results, Try.results40, go_sem, e0, e1, e2]) rfl ?_
          rw [HM2.out]
          obtain rfl := HBB.out
          exact ⟨rfl, HFIN.out _ _ _ _ (HB1.out.trans (HBr.out.mono (by omega)))⟩
end Go.Proofs.Ytdpjblepcpjomaa.Rb
