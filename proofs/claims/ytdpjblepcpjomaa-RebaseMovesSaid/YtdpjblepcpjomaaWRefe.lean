/-
  What the reference's Move answers: what the program's Move does.
-/
import Derived.Test.YtdpjblepcpjomaaWRefd
import Derived.Test.YtdpjblepcpjomaaRWalkj
import Derived.Test.YtdpjblepcpjomaaPLaw
import Derived.Deep.RegionHeld3
namespace Go.Proofs.Ytdpjblepcpjomaa.Rb
open Go.RowKit
theorem wrap64_sub (x y : Int) (h0 : -9223372036854775808 ≤ x - y) (h1 : x - y ≤ 9223372036854775807) : wrap64 (wrap64 x - y) = x - y := by
  simp only [wrap64]; omega
theorem far3 {w : World} {G b : Nat} (h : G ≠ b) (v0 v1 v2 : Value) (o : Nat) : (((w.setCell ⟨G, 0, none⟩ v0).setCell ⟨G, 1, none⟩ v1).setCell ⟨G, 2, none⟩ v2).cell? ⟨b, o, none⟩ = w.cell? ⟨b, o, none⟩ :=
  (World.cell?_setCell_far _ _ _ _ h).trans ((World.cell?_setCell_far _ _ _ _ h).trans (World.cell?_setCell_far _ _ _ _ h))
theorem belowBox {B G : Nat} {w w5 : World} (h : Below B w w5) (hB : B ≤ G) (v0 v1 v2 : Value) : Below B w (((w5.setCell ⟨G, 0, none⟩ v0).setCell ⟨G, 1, none⟩ v1).setCell ⟨G, 2, none⟩ v2) :=
  ((h.setCell (p := ⟨G, 0, none⟩) hB v0).setCell (p := ⟨G, 1, none⟩) hB v1).setCell (p := ⟨G, 2, none⟩) hB v2
set_option maxHeartbeats 8000000 in
set_option maxRecDepth 100000 in
theorem refMove_any (A : Option Addr) (len cap : Nat) (Ar : Option Addr) (nr cr : Nat) (a : Int) (A2 : Option Addr) (len2 cap2 : Nat) (w : World) (T : List S) (RS : List R) (l : List S) (hlen : T.length = len) (hr : Sc.Rd w w.heap.size A T) (hm : len ≤ 300)
    (hlr : RS.length = nr) (hrr : Rd w w.heap.size Ar RS) (hI : IR RS) (hmr : nr ≤ 100000) (hlen2 : l.length = len2) (hr2 : Sc.Rd w w.heap.size A2 l) (hm2 : len2 ≤ 100000) (_a0 : -9223372036854775808 ≤ a) (_a1 : a ≤ 9223372036854775807) :
    Calls Try.prog 18 #[.slice A len cap, .slice Ar nr cr, .int .i64 a, .slice A2 len2 cap2] w fun e w' => (∃ A' n c, e = .returned (.tuple #[.slice A' n c, .int .i64 (moveE T RS a l)]) ∧ Sc.Own w' w.heap.size A' n c (moveR T RS a l)) ∧ Below w.heap.size w w' := by
  obtain ⟨i0, hi, hz0, hz1, hz2⟩ := info_parts Sc.info31
  have H := Lib.hid hlen; have HR := Lib.hid hr; have HL := Lib.hid hlr; have HRR := Lib.hid hrr; have HI := Lib.hid hI; have H2 := Lib.hid hlen2; have HR2 := Lib.hid hr2
  clear hlen hr hlr hrr hI hlen2 hr2
  go_enter Try.func18, Try.ntmps18
  go_wp2_with fail
  go_loopw [10, 11] (fun v i wr => ∃ (j : Nat) (t : Int), j ≤ nr ∧ i = .int .i64 j ∧ v = .int .i64 t ∧ Hid (Right RS → t = tot (RS.take j)) ∧ Below w.heap.size w wr) (fun _ i _ => nr - (intOf i).toNat)
  case atStart => exact ⟨0, 0, Nat.zero_le _, rfl, rfl, Lib.hid (fun _ => rfl), Below.refl _ _⟩
  case round =>
    obtain ⟨j, t, hj, rfl, rfl, HTT, hb⟩ := hrel
    by_cases hlt : j < nr
    · obtain ⟨r, hr⟩ := get_some RS j (by have := HL.out; omega)
      obtain ⟨b, off, rfl, hb', c0, c1⟩ := HRR.out.below hb (Nat.le_refl _) j r hr
      have hri := HI.out r (List.mem_of_getElem? hr)
      unfold I64 at hri
      have HRj := Lib.hid hr
      clear hr
      go_wp2_with fail
      go_quiet (fail)
      go_wp2_with fail
      go_roundw
      case rel =>
        refine ⟨j+1, _, by omega, by go_num, rfl, Lib.hid (fun hS => ?_), belowDrewN hb _⟩
        have ht := tot_take_le hS HRj.out
        have hn := right_mem hS (List.mem_of_getElem? HRj.out)
        have hbd := tot_bound hS (right_nn hS HI.out)
        rw [take_snoc RS j r HRj.out, tot_snoc, HTT.out hS]
        first
          | omega
          | (simp only [wrap64]; omega)
      case measure => simp [intOf]; omega
    · obtain rfl : j = nr := by omega
      have e2 : RS.take j = RS := by rw [List.take_of_length_le (Nat.le_of_eq HL.out)]
      rw [e2] at HTT
      have HB0 := Lib.hid hb
      have R0 := Lib.hid (HR.out.up hb)
      clear hlt e2 hb
      by_cases hG : Good T RS a l
      · obtain ⟨g1, g2, g3, g4, g5, g6⟩ := hG
        have HG := Lib.hid (show Good T RS a l from ⟨g1, g2, g3, g4, g5, g6⟩)
        have e1 := mayX_of g1; have e2 := mayX_of g2; have e3 := rightB_of g3
        have HT := Lib.hid g1; have HM := Lib.hid g2; have HS := Lib.hid g3
        have ht := HTT.out g3
        subst ht
        have d1 : decide (a < 0) = false := decide_eq_false (by omega)
        have d2 : decide (1099511627776 < a) = false := decide_eq_false (by omega)
        have d3 : decide (1099511627776 - a < tot RS) = false := decide_eq_false (by omega)
        clear g1 g2 g3
        go_wp2_with fail
        refine (refMay_any A len cap _ T H.out R0.out (by omega)).mono ?_
        rintro e w1 ⟨rfl, hb1⟩
        have HB1 := Lib.hid (HB0.out.trans (hb1.mono HB0.out.size))
        have R1 := Lib.hid (HR2.out.up HB1.out)
        clear hb1
        go_wp2_with fail
        refine (refMay_any A2 len2 cap2 _ l H2.out R1.out (by omega)).mono ?_
        rintro e w2 ⟨rfl, hb2⟩
        have HB2 := Lib.hid (below_up HB1.out hb2)
        clear hb2 R1 HB1
        have R2 := Lib.hid (HRR.out.up HB2.out)
        go_wp2_with fail
        refine (RefRight_any Ar j cr _ RS HL.out R2.out HI.out (by omega)).mono ?_
        rintro e w3 ⟨rfl, hb3⟩
        have HB3 := Lib.hid (below_up HB2.out hb3)
        clear hb3 HB2 R2
        go_wp2_with fail
        have RT3 := Lib.hid (HR.out.up HB3.out)
        have RR3 := Lib.hid (HRR.out.up HB3.out)
        have RL3 := Lib.hid (HR2.out.up HB3.out)
        have hwB := HB3.out.size
        generalize hBB : w3.heap.size = BB at *
        have HBB := Lib.hid hBB; clear hBB
        go_loopw [12, 13] (fun v i wr => ∃ k n A' c O, k ≤ len2 ∧ i = .int .i64 k ∧ v = .slice A' n c ∧ Sc.Own wr BB A' n c O ∧ Hid (Sc.Ok O) ∧ Hid (Sc.joinL O = O) ∧ Hid (MvTo (Sc.bts T) RS a (Sc.bts (l.take k)) O) ∧ Below BB w3 wr) (fun _ i _ => len2 - (intOf i).toNat)
        case atStart => exact ⟨0, 0, _, _, [], Nat.zero_le _, rfl, rfl, Sc.Own.nil _ _, Lib.hid Sc.ok_nil, Lib.hid rfl, Lib.hid (MvTo.nil _ _ _), Below.refl _ _⟩
        case round =>
          obtain ⟨k, n, A', c, O, hk, rfl, rfl, hown, HOk, HJ, HTo, hb⟩ := hrel
          have hsz : BB ≤ wr.heap.size := by have := hb.size; have := HBB.out; omega
          have HOw := Lib.hid hown; have HBel := Lib.hid hb
          by_cases hlt : k < len2
          · obtain ⟨s, hs⟩ := Sc.get_some l k (by have := H2.out; omega)
            have hok := HM.out.2.1.at_ hs
            unfold Sc.okS at hok
            have HSk := Lib.hid hs
            clear hs hown hb
            obtain ⟨sl, hsl⟩ : ∃ sl : Nat, s.len = (sl : Int) := ⟨s.len.toNat, by omega⟩
            rw [hsl] at hok
            have HSL := Lib.hid hsl
            clear hsl
            go_wp2_with fail
            go_loopw [12, 14] (fun v i wx => ∃ d n2 A3 c3 O2, d ≤ sl ∧ i = .int .i64 d ∧ v = .slice A3 n2 c3 ∧ Sc.Own wx BB A3 n2 c3 O2 ∧ Hid (Sc.Ok O2) ∧ Hid (Sc.joinL O2 = O2) ∧ Hid (MvTo (Sc.bts T) RS a (Sc.bts (l.take k) ++ Sc.sb ⟨s.src, s.at_, (d : Int)⟩) O2) ∧ Below BB w3 wx) (fun _ i _ => sl - (intOf i).toNat)
            case atStart => exact ⟨0, n, A', c, O, Nat.zero_le _, rfl, rfl, HOw.out, HOk, HJ, by simpa [Sc.sb] using HTo, HBel.out⟩
            case round =>
              obtain ⟨d, n2, A3, c3, O2, hd, rfl, rfl, hown2, HOk2, HJ2, HTo2, hb2⟩ := hrel
              obtain ⟨b, off, hA, hb', h0, h1, h2⟩ := RL3.out.below hb2 (Nat.le_refl _) k s HSk.out
              rw [HSL.out] at h2
              subst hA
              have hsz2 : BB ≤ wr.heap.size := by have := hb2.size; have := HBB.out; omega
              have HO2 := Lib.hid hown2; have HB2 := Lib.hid hb2
              by_cases hlt2 : d < sl
              · have hmem : (s.src, s.at_ + (d : Int)) ∈ Sc.bts l := by
                  rw [mem_bts]
                  exact ⟨s, List.mem_of_getElem? HSk.out, rfl, by omega, by have := HSL.out; omega⟩
                have HMem := Lib.hid hmem
                have HSB := Lib.hid (sb_snoc s d)
                have CE := fun (W : World) (hW : Below BB w3 W) (hz : BB ≤ W.heap.size) => refOne_any A len cap Ar j cr a s.src (s.at_ + (d : Int)) W T RS H.out ((RT3.out.below hW (Nat.le_refl _)).more hz) HT.out.2 HL.out ((RR3.out.below hW (Nat.le_refl _)).more hz) (by omega) HS.out (right_nn HS.out HI.out) (by omega) (by omega) (by omega) (by omega)
                have hbz : b < wr.heap.size := by omega
                have hbn : wr.heap.size ≠ b := by omega
                have hap : IntKind.i64.wrap (s.at_ + (d : Int)) = s.at_ + (d : Int) := IntWalk.i64_in _ (by omega)
                have hwd : Below BB w3 wr.drew := ⟨hb2.os, hb2.tape, hb2.output, hb2.size, hb2.block⟩
                have hwa : Below BB w3 (wr.alloc (.cells #[.int .i64 0, .int .i64 0, .int .i64 0] 56)).drew := by
                  have h := hb2.alloc hsz2 (.cells #[.int .i64 0, .int .i64 0, .int .i64 0] 56)
                  exact ⟨h.os, h.tape, h.output, h.size, h.block⟩
                have hza : BB ≤ (wr.alloc (.cells #[.int .i64 0, .int .i64 0, .int .i64 0] 56)).drew.heap.size := by
                  show BB ≤ (wr.alloc (.cells #[.int .i64 0, .int .i64 0, .int .i64 0] 56)).heap.size
                  simp; omega
                have C1 := CE wr.drew hwd hsz2
                have C2 := CE (wr.alloc (.cells #[.int .i64 0, .int .i64 0, .int .i64 0] 56)).drew hwa hza
                have hbz2 : b < (wr.alloc (.cells #[.int .i64 0, .int .i64 0, .int .i64 0] 56)).drew.heap.size := by
                  show b < (wr.alloc (.cells #[.int .i64 0, .int .i64 0, .int .i64 0] 56)).heap.size
                  simp; omega
                have g0 : (wr.alloc (.cells #[.int .i64 0, .int .i64 0, .int .i64 0] 56)).drew.cell? ⟨b, off + k * 3, none⟩ = some (.int .i64 s.src) := (World.cell?_alloc_lt wr _ ⟨b, off + k * 3, none⟩ hbz).trans h0
                have g1 : (wr.alloc (.cells #[.int .i64 0, .int .i64 0, .int .i64 0] 56)).drew.cell? ⟨b, off + k * 3 + 1, none⟩ = some (.int .i64 s.at_) := (World.cell?_alloc_lt wr _ ⟨b, off + k * 3 + 1, none⟩ hbz).trans h1
                have hcz : ∀ i, (wr.alloc (.cells #[.int .i64 0, .int .i64 0, .int .i64 0] 56)).drew.cell? ⟨wr.heap.size, i, none⟩ = (#[.int .i64 0, .int .i64 0, .int .i64 0] : Array Value)[i]? := fun i => cell_new _ _ _ _
                have hfz : ∀ i, (wr.alloc (.cells #[.int .i64 0, .int .i64 0, .int .i64 0] 56)).drew.frozen? ⟨wr.heap.size, i, none⟩ = false := fun i => by
                  show (wr.alloc (.cells #[.int .i64 0, .int .i64 0, .int .i64 0] 56)).frozen? _ = false
                  unfold World.frozen?; rw [heap_alloc_new]; simp
                have hwz : wr.heap.size < (wr.alloc (.cells #[.int .i64 0, .int .i64 0, .int .i64 0] 56)).drew.heap.size := by
                  show wr.heap.size < (wr.alloc (.cells #[.int .i64 0, .int .i64 0, .int .i64 0] 56)).heap.size
                  simp
                have CZ := Lib.hid hcz; have FZ := Lib.hid hfz; have WZ := Lib.hid hwz
                clear hcz hfz hwz
                have G0 := Lib.hid g0; have G1 := Lib.hid g1; have WA := Lib.hid hwa; have ZA := Lib.hid hza; have WD := Lib.hid hwd
                obtain ⟨o, ho⟩ : ∃ o, mv (Sc.bts T) RS a (s.src, s.at_ + (d : Int)) = o := ⟨_, rfl⟩
                rw [ho] at C1 C2
                have HOO := Lib.hid ho
                clear hown2 hb2 hmem ho CE g0 g1 hwa hza hwd
                cases o with
                | none =>
                  have HC1 := Lib.hid (show Calls Try.prog 40 #[.slice A len cap, .slice Ar j cr, .int .i64 a, .int .i64 s.src, .int .i64 (s.at_ + (d : Int))] wr.drew fun e w' => e = .returned (.tuple #[.agg #[.int .i64 0, .int .i64 0, .int .i64 0], .bool false]) ∧ Below wr.drew.heap.size wr.drew w' from C1)
                  have HC2 := Lib.hid (show Calls Try.prog 40 #[.slice A len cap, .slice Ar j cr, .int .i64 a, .int .i64 s.src, .int .i64 (s.at_ + (d : Int))] (wr.alloc (.cells #[.int .i64 0, .int .i64 0, .int .i64 0] 56)).drew fun e w' => e = .returned (.tuple #[.agg #[.int .i64 0, .int .i64 0, .int .i64 0], .bool false]) ∧ Below (wr.alloc (.cells #[.int .i64 0, .int .i64 0, .int .i64 0] 56)).drew.heap.size (wr.alloc (.cells #[.int .i64 0, .int .i64 0, .int .i64 0] 56)).drew w' from C2)
                  clear C1 C2
                  have HD := Lib.hid (move_none HG.out HMem.out HOO.out)
                  go_wp2_with fail
                  go_region_held3 (fun w' => w'.cell? ⟨b, off + k * 3, none⟩ = some (.int .i64 s.src) ∧ w'.cell? ⟨b, off + k * 3 + 1, none⟩ = some (.int .i64 s.at_))
                    (first
                      | go_keep
                      | (exact ⟨(hb5.cell (p := ⟨b, off + k * 3, none⟩) hbz).trans h0, (hb5.cell (p := ⟨b, off + k * 3 + 1, none⟩) hbz).trans h1⟩)
                      | (exact ⟨(hb5.cell (p := ⟨b, off + k * 3, none⟩) hbz2).trans G0.out, (hb5.cell (p := ⟨b, off + k * 3 + 1, none⟩) hbz2).trans G1.out⟩)
                      | (exact ⟨(far3 hbn _ _ _ _).trans ((hb5.cell (p := ⟨b, off + k * 3, none⟩) hbz2).trans G0.out), (far3 hbn _ _ _ _).trans ((hb5.cell (p := ⟨b, off + k * 3 + 1, none⟩) hbz2).trans G1.out)⟩))
                    ((go_at_call_of 40 (Value.slice A len cap); first | (refine HC1.out.mono ?_; rintro e w5 ⟨rfl, hb5⟩; have hB5 := WD.out.trans (hb5.mono hsz2)) | (refine HC2.out.mono ?_; rintro e w5 ⟨rfl, hb5⟩; have hB5 := WA.out.trans (hb5.mono ZA.out); have k0 := (hb5.cell (p := ⟨wr.heap.size, 0, none⟩) WZ.out).trans (CZ.out 0); have k1 := (hb5.cell (p := ⟨wr.heap.size, 1, none⟩) WZ.out).trans (CZ.out 1); have k2 := (hb5.cell (p := ⟨wr.heap.size, 2, none⟩) WZ.out).trans (CZ.out 2); have k3 := (hb5.frozen (p := ⟨wr.heap.size, 0, none⟩) WZ.out).trans (FZ.out 0); have k4 := (hb5.frozen (p := ⟨wr.heap.size, 1, none⟩) WZ.out).trans (FZ.out 1); have k5 := (hb5.frozen (p := ⟨wr.heap.size, 2, none⟩) WZ.out).trans (FZ.out 2))))
                  all_goals
                    have HB9 : Hid (BB ≤ w5.heap.size ∧ Below BB w3 w5) := Lib.hid ⟨by have := hB5.size; have := HBB.out; omega, hB5⟩
                    clear hb5 hB5
                    go_wp2_with fail
                    go_ret2
                    rw [HD.out.1, HD.out.2]
                    refine ⟨⟨_, _, _, rfl, Sc.Own.nil _ _⟩, HB3.out.trans (Below.mono (B := BB) ?_ (by omega))⟩
                    first
                      | exact HB9.out.2.alloc HB9.out.1 _
                      | exact belowBox HB9.out.2 hsz2 _ _ _
                | some z =>
                  obtain ⟨z1, z2⟩ := z
                  have HC1 := Lib.hid (show Calls Try.prog 40 #[.slice A len cap, .slice Ar j cr, .int .i64 a, .int .i64 s.src, .int .i64 (s.at_ + (d : Int))] wr.drew fun e w' => e = .returned (.tuple #[.agg #[.int .i64 z1, .int .i64 z2, .int .i64 1], .bool true]) ∧ Below wr.drew.heap.size wr.drew w' from C1)
                  have HC2 := Lib.hid (show Calls Try.prog 40 #[.slice A len cap, .slice Ar j cr, .int .i64 a, .int .i64 s.src, .int .i64 (s.at_ + (d : Int))] (wr.alloc (.cells #[.int .i64 0, .int .i64 0, .int .i64 0] 56)).drew fun e w' => e = .returned (.tuple #[.agg #[.int .i64 z1, .int .i64 z2, .int .i64 1], .bool true]) ∧ Below (wr.alloc (.cells #[.int .i64 0, .int .i64 0, .int .i64 0] 56)).drew.heap.size (wr.alloc (.cells #[.int .i64 0, .int .i64 0, .int .i64 0] 56)).drew w' from C2)
                  clear C1 C2
                  have hzok := mv_ok HT.out.2 HS.out (by omega) (by omega) (x := (s.src, s.at_ + (d : Int))) (by simp only; omega) (by simp only; omega) HOO.out
                  have HOk9 := Lib.hid (ok_app HOk2.out hzok)
                  have htl := HTo2.out.len HOk2.out
                  rw [List.length_append, Sc.sb_length] at htl
                  have hbt := Sc.bts_length (HM.out.2.1.take k)
                  have htk := Sc.tot_take_le l HM.out.2.1 (k+1)
                  rw [Sc.tot_take_succ l k s HSk.out, HSL.out] at htk
                  have htm := HM.out.2.2
                  have hln := Sc.len_le_tot O2 HOk2.out
                  have hn2 : n2 ≤ 1099511627776 := by
                    have := HO2.out.1
                    simp only at htl
                    omega
                  have HTot := Lib.hid (show Sc.tot (O2 ++ [⟨z1, z2, 1⟩]) ≤ 1099511627776 by
                    rw [Sc.tot_append]
                    simp only [Sc.tot]
                    simp only at htl
                    omega)
                  have HTo9 : Hid (MvTo (Sc.bts T) RS a (Sc.bts (l.take k) ++ Sc.sb ⟨s.src, s.at_, ((d + 1 : Nat) : Int)⟩) (O2 ++ [⟨z1, z2, 1⟩])) := Lib.hid (by
                    rw [HSB.out, ← List.append_assoc]
                    refine HTo2.out.snoc ?_
                    rw [List.map_cons, List.map_nil, HOO.out]
                    simp [Sc.sb])
                  clear hzok htl hbt htk htm hln
                  go_wp2_with fail
                  go_region_held3 (fun w' => w'.cell? ⟨b, off + k * 3, none⟩ = some (.int .i64 s.src) ∧ w'.cell? ⟨b, off + k * 3 + 1, none⟩ = some (.int .i64 s.at_))
                    (first
                      | go_keep
                      | (exact ⟨(hb5.cell (p := ⟨b, off + k * 3, none⟩) hbz).trans h0, (hb5.cell (p := ⟨b, off + k * 3 + 1, none⟩) hbz).trans h1⟩)
                      | (exact ⟨(hb5.cell (p := ⟨b, off + k * 3, none⟩) hbz2).trans G0.out, (hb5.cell (p := ⟨b, off + k * 3 + 1, none⟩) hbz2).trans G1.out⟩)
                      | (exact ⟨(World.cell?_alloc_lt w5 _ ⟨b, off + k * 3, none⟩ (Nat.lt_of_lt_of_le hbz hb5.size)).trans ((hb5.cell (p := ⟨b, off + k * 3, none⟩) hbz).trans h0), (World.cell?_alloc_lt w5 _ ⟨b, off + k * 3 + 1, none⟩ (Nat.lt_of_lt_of_le hbz hb5.size)).trans ((hb5.cell (p := ⟨b, off + k * 3 + 1, none⟩) hbz).trans h1)⟩)
                      | (exact ⟨(far3 hbn _ _ _ _).trans ((hb5.cell (p := ⟨b, off + k * 3, none⟩) hbz2).trans G0.out), (far3 hbn _ _ _ _).trans ((hb5.cell (p := ⟨b, off + k * 3 + 1, none⟩) hbz2).trans G1.out)⟩))
                    ((go_at_call_of 40 (Value.slice A len cap); first | (refine HC1.out.mono ?_; rintro e w5 ⟨rfl, hb5⟩; have hB5 := WD.out.trans (hb5.mono hsz2)) | (refine HC2.out.mono ?_; rintro e w5 ⟨rfl, hb5⟩; have hB5 := WA.out.trans (hb5.mono ZA.out); have k0 := (hb5.cell (p := ⟨wr.heap.size, 0, none⟩) WZ.out).trans (CZ.out 0); have k1 := (hb5.cell (p := ⟨wr.heap.size, 1, none⟩) WZ.out).trans (CZ.out 1); have k2 := (hb5.cell (p := ⟨wr.heap.size, 2, none⟩) WZ.out).trans (CZ.out 2); have k3 := (hb5.frozen (p := ⟨wr.heap.size, 0, none⟩) WZ.out).trans (FZ.out 0); have k4 := (hb5.frozen (p := ⟨wr.heap.size, 1, none⟩) WZ.out).trans (FZ.out 1); have k5 := (hb5.frozen (p := ⟨wr.heap.size, 2, none⟩) WZ.out).trans (FZ.out 2))))
                  · have hb6 : Below wr.heap.size wr w5 := ⟨hb5.os, hb5.tape, hb5.output, hb5.size, hb5.block⟩
                    have hs5 : BB ≤ w5.heap.size := by have := hb6.size; omega
                    have ho8 := (HO2.out.below hb6 (Nat.le_refl _)).alloc (.cells #[.int .i64 z1, .int .i64 z2, .int .i64 1] 56)
                    have hb8 := hB5.alloc hs5 (.cells #[.int .i64 z1, .int .i64 z2, .int .i64 1] 56)
                    have x0 : (w5.alloc (.cells #[.int .i64 z1, .int .i64 z2, .int .i64 1] 56)).cell? ⟨w5.heap.size, 0, none⟩ = some (.int .i64 z1) := by rw [Sc.cell_new]; rfl
                    have x1 : (w5.alloc (.cells #[.int .i64 z1, .int .i64 z2, .int .i64 1] 56)).cell? ⟨w5.heap.size, 1, none⟩ = some (.int .i64 z2) := by rw [Sc.cell_new]; rfl
                    have x2 : (w5.alloc (.cells #[.int .i64 z1, .int .i64 z2, .int .i64 1] 56)).cell? ⟨w5.heap.size, 2, none⟩ = some (.int .i64 1) := by rw [Sc.cell_new]; rfl
                    have hs8 : BB ≤ (w5.alloc (.cells #[.int .i64 z1, .int .i64 z2, .int .i64 1] 56)).heap.size := by simp; omega
                    clear hb5 hb6 hB5 h0 h1 h2
                    generalize (w5.alloc (.cells #[.int .i64 z1, .int .i64 z2, .int .i64 1] 56)) = W8 at *
                    generalize w5.heap.size = XS at *
                    have HO8 := Lib.hid ho8; have HB8 := Lib.hid hb8
                    clear ho8 hb8
                    go_wp2_with (at_builtin; refine wpList_append_own _ rfl _ _ 22 rfl BB 56 i0 _ 3 24 Try.underlying22 hi hz0 hz1 hz2 rfl (by decide) _ _ _ rfl (HO8.out.alloc _).2 ⟨W8.heap.size, 0, none⟩ 1 1 (Sc.cells [⟨z1, z2, 1⟩]) rfl rfl (Sc.new_one _ ⟨z1, z2, 1⟩ _ rfl) (Sc.cells_one_cell _) (by unfold maxLen; omega) (by omega) (by simp; omega) ?_)
                    intro v' w9 hown' hgrow _
                    obtain ⟨⟨A9, c9, hv, hown9⟩, hb9, _, _, _⟩ := Sc.app_step (w := w3) (s' := ⟨z1, z2, 1⟩) HO8.out HB8.out hs8 ((Below.refl _ _).alloc (Nat.le_refl _) _) hown' hgrow
                    rw [hv]
                    have HO9 := Lib.hid hown9; have HB9 := Lib.hid hb9
                    clear hgrow hown' hv hown9 hb9
                    go_wp2_with fail
                    refine (Sc.refJoin_any A9 (n2 + 1) c9 _ (O2 ++ [⟨z1, z2, 1⟩]) HO9.out.1 HO9.out.rd HOk9.out HTot.out).mono ?_
                    rintro e w10 ⟨⟨A10, n10, c10, rfl, hown10⟩, hb10⟩
                    have hs9 : BB ≤ w9.heap.size := by have := HB9.out.size; have := HBB.out; omega
                    have HO10 := Lib.hid (hown10.mono (base' := BB) hs9)
                    have HB10 := Lib.hid (HB9.out.trans (hb10.mono hs9))
                    clear hown10 hb10
                    go_wp2_with fail
                    go_roundw
                    case rel => exact ⟨d+1, n10, A10, c10, Sc.joinL (O2 ++ [⟨z1, z2, 1⟩]), by omega, by go_num, rfl, HO10.out, Lib.hid (Sc.joinL_ok HOk9.out), Lib.hid (Sc.joinL_joinL HOk9.out), Lib.hid (HTo9.out.joined HOk9.out), HB10.out⟩
                    case measure => simp [intOf]; omega
                  · have hb6 : Below (wr.heap.size + 1) (wr.alloc (.cells #[.int .i64 0, .int .i64 0, .int .i64 0] 56)) w5 := by
                      have e : (wr.alloc (.cells #[.int .i64 0, .int .i64 0, .int .i64 0] 56)).drew.heap.size = wr.heap.size + 1 := by
                        show (wr.alloc (.cells #[.int .i64 0, .int .i64 0, .int .i64 0] 56)).heap.size = _
                        simp
                      rw [e] at hb5
                      exact ⟨hb5.os, hb5.tape, hb5.output, hb5.size, hb5.block⟩
                    have hoff : (Value.slice A3 n2 c3).ownBlock ≠ some wr.heap.size := fun e => by have := (HO2.out.2.lt _ e).2; omega
                    have ho8 := Own.off (Own.off (Own.off ((HO2.out.alloc (.cells #[.int .i64 0, .int .i64 0, .int .i64 0] 56)).below hb6 (by simp)) ⟨wr.heap.size, 0, none⟩ (.int .i64 z1) hoff) ⟨wr.heap.size, 1, none⟩ (.int .i64 z2) hoff) ⟨wr.heap.size, 2, none⟩ (.int .i64 1) hoff
                    have hb8 := belowBox hB5 hsz2 (.int .i64 z1) (.int .i64 z2) (.int .i64 1)
                    have hw5 : wr.heap.size < w5.heap.size := by have := hb6.size; simp at this; omega
                    obtain ⟨x0, x1, x2⟩ := (one_cells k0 k1 k2 hw5 (.int .i64 z1) (.int .i64 z2) (.int .i64 1) (.cells #[] 56)).1
                    have hs8 : BB ≤ (((w5.setCell ⟨wr.heap.size, 0, none⟩ (.int .i64 z1)).setCell ⟨wr.heap.size, 1, none⟩ (.int .i64 z2)).setCell ⟨wr.heap.size, 2, none⟩ (.int .i64 1)).heap.size := by simp; omega
                    clear hb5 hb6 hB5 h0 h1 h2 k0 k1 k2 k3 k4 k5
                    generalize (((w5.setCell ⟨wr.heap.size, 0, none⟩ (.int .i64 z1)).setCell ⟨wr.heap.size, 1, none⟩ (.int .i64 z2)).setCell ⟨wr.heap.size, 2, none⟩ (.int .i64 1)) = W8 at *
                    generalize wr.heap.size = XS at *
                    have HO8 := Lib.hid ho8; have HB8 := Lib.hid hb8
                    clear ho8 hb8
                    go_wp2_with (at_builtin; refine wpList_append_own _ rfl _ _ 22 rfl BB 56 i0 _ 3 24 Try.underlying22 hi hz0 hz1 hz2 rfl (by decide) _ _ _ rfl (HO8.out.alloc _).2 ⟨W8.heap.size, 0, none⟩ 1 1 (Sc.cells [⟨z1, z2, 1⟩]) rfl rfl (Sc.new_one _ ⟨z1, z2, 1⟩ _ rfl) (Sc.cells_one_cell _) (by unfold maxLen; omega) (by omega) (by simp; omega) ?_)
                    intro v' w9 hown' hgrow _
                    obtain ⟨⟨A9, c9, hv, hown9⟩, hb9, _, _, _⟩ := Sc.app_step (w := w3) (s' := ⟨z1, z2, 1⟩) HO8.out HB8.out hs8 ((Below.refl _ _).alloc (Nat.le_refl _) _) hown' hgrow
                    rw [hv]
                    have HO9 := Lib.hid hown9; have HB9 := Lib.hid hb9
                    clear hgrow hown' hv hown9 hb9
                    go_wp2_with fail
                    refine (Sc.refJoin_any A9 (n2 + 1) c9 _ (O2 ++ [⟨z1, z2, 1⟩]) HO9.out.1 HO9.out.rd HOk9.out HTot.out).mono ?_
                    rintro e w10 ⟨⟨A10, n10, c10, rfl, hown10⟩, hb10⟩
                    have hs9 : BB ≤ w9.heap.size := by have := HB9.out.size; have := HBB.out; omega
                    have HO10 := Lib.hid (hown10.mono (base' := BB) hs9)
                    have HB10 := Lib.hid (HB9.out.trans (hb10.mono hs9))
                    clear hown10 hb10
                    go_wp2_with fail
                    go_roundw
                    case rel => exact ⟨d+1, n10, A10, c10, Sc.joinL (O2 ++ [⟨z1, z2, 1⟩]), by omega, by go_num, rfl, HO10.out, Lib.hid (Sc.joinL_ok HOk9.out), Lib.hid (Sc.joinL_joinL HOk9.out), Lib.hid (HTo9.out.joined HOk9.out), HB10.out⟩
                    case measure => simp [intOf]; omega
              · obtain rfl : d = sl := by omega
                have HTo3 : Hid (MvTo (Sc.bts T) RS a (Sc.bts (l.take (k+1))) O2) := Lib.hid (by
                  have := HTo2.out
                  rw [← HSL.out] at this
                  rw [bts_take l k s HSk.out]; exact this)
                clear hown2 hb2 hlt2
                go_wp2_with fail
                go_roundw
                case rel => exact ⟨k+1, n2, A3, c3, O2, by omega, by go_num, rfl, HO2.out, HOk2, HJ2, HTo3, HB2.out⟩
                case measure => simp [intOf]; omega
          · obtain rfl : k = len2 := by omega
            have e9 : l.take k = l := by rw [List.take_of_length_le (Nat.le_of_eq H2.out)]
            rw [e9] at HTo
            have HD := Lib.hid (move_done HG.out HTo.out.all)
            have hjo := HTo.out.join HOk.out
            rw [HJ.out, ← HD.out.2] at hjo
            have HJO := Lib.hid hjo
            have HB9 := Lib.hid (HB3.out.trans (hb.mono hwB))
            clear hown hb hlt e9 hjo
            go_wp2_with fail
            go_ret2
            rw [HD.out.1, ← HJO.out]
            exact ⟨⟨_, _, _, rfl, HOw.out.mono hwB⟩, HB9.out⟩
      · have HG := Lib.hid hG
        have HD := Lib.hid (move_bad hG)
        clear hG
        by_cases g1 : MayX T
        · have e1 := mayX_of g1
          by_cases g2 : MayX l
          · have e2 := mayX_of g2
            by_cases g3 : Right RS
            · have e3 := rightB_of g3
              have ht := HTT.out g3
              subst ht
              have HG' := Lib.hid (show ¬ (0 ≤ a ∧ a ≤ 1099511627776 ∧ tot RS ≤ 1099511627776 - a) from fun h => HG.out ⟨g1, g2, g3, h⟩)
              clear g1 g2 g3
              by_cases c1 : a < 0
              · go_wp2_with fail
                refine (refMay_any A len cap _ T H.out R0.out (by omega)).mono ?_
                rintro e w1 ⟨rfl, hb1⟩
                have HB1 := Lib.hid (HB0.out.trans (hb1.mono HB0.out.size))
                have R1 := Lib.hid (HR2.out.up HB1.out)
                clear hb1
                go_wp2_with fail
                refine (refMay_any A2 len2 cap2 _ l H2.out R1.out (by omega)).mono ?_
                rintro e w2 ⟨rfl, hb2⟩
                have HB2 := Lib.hid (below_up HB1.out hb2)
                clear hb2 R1 HB1
                have R2 := Lib.hid (HRR.out.up HB2.out)
                go_wp2_with fail
                refine (RefRight_any Ar j cr _ RS HL.out R2.out HI.out (by omega)).mono ?_
                rintro e w3 ⟨rfl, hb3⟩
                have HB3 := Lib.hid (below_up HB2.out hb3)
                clear hb3 HB2 R2
                go_wp2_with fail
                go_ret2
                rw [HD.out.1, HD.out.2]
                exact ⟨⟨_, _, _, rfl, Sc.Own.nil _ _⟩, HB3.out⟩
              · by_cases c2 : 1099511627776 < a
                · go_wp2_with fail
                  refine (refMay_any A len cap _ T H.out R0.out (by omega)).mono ?_
                  rintro e w1 ⟨rfl, hb1⟩
                  have HB1 := Lib.hid (HB0.out.trans (hb1.mono HB0.out.size))
                  have R1 := Lib.hid (HR2.out.up HB1.out)
                  clear hb1
                  go_wp2_with fail
                  refine (refMay_any A2 len2 cap2 _ l H2.out R1.out (by omega)).mono ?_
                  rintro e w2 ⟨rfl, hb2⟩
                  have HB2 := Lib.hid (below_up HB1.out hb2)
                  clear hb2 R1 HB1
                  have R2 := Lib.hid (HRR.out.up HB2.out)
                  go_wp2_with fail
                  refine (RefRight_any Ar j cr _ RS HL.out R2.out HI.out (by omega)).mono ?_
                  rintro e w3 ⟨rfl, hb3⟩
                  have HB3 := Lib.hid (below_up HB2.out hb3)
                  clear hb3 HB2 R2
                  go_wp2_with fail
                  go_ret2
                  rw [HD.out.1, HD.out.2]
                  exact ⟨⟨_, _, _, rfl, Sc.Own.nil _ _⟩, HB3.out⟩
                · have c3 : 1099511627776 - a < tot RS := by
                    have := HG'.out
                    omega
                  go_wp2_with fail
                  refine (refMay_any A len cap _ T H.out R0.out (by omega)).mono ?_
                  rintro e w1 ⟨rfl, hb1⟩
                  have HB1 := Lib.hid (HB0.out.trans (hb1.mono HB0.out.size))
                  have R1 := Lib.hid (HR2.out.up HB1.out)
                  clear hb1
                  go_wp2_with fail
                  refine (refMay_any A2 len2 cap2 _ l H2.out R1.out (by omega)).mono ?_
                  rintro e w2 ⟨rfl, hb2⟩
                  have HB2 := Lib.hid (below_up HB1.out hb2)
                  clear hb2 R1 HB1
                  have R2 := Lib.hid (HRR.out.up HB2.out)
                  go_wp2_with fail
                  refine (RefRight_any Ar j cr _ RS HL.out R2.out HI.out (by omega)).mono ?_
                  rintro e w3 ⟨rfl, hb3⟩
                  have HB3 := Lib.hid (below_up HB2.out hb3)
                  clear hb3 HB2 R2
                  go_wp2_with fail
                  go_ret2
                  rw [HD.out.1, HD.out.2]
                  exact ⟨⟨_, _, _, rfl, Sc.Own.nil _ _⟩, HB3.out⟩
            · have e3 := rightB_not g3
              clear g1 g2 g3
              go_wp2_with fail
              refine (refMay_any A len cap _ T H.out R0.out (by omega)).mono ?_
              rintro e w1 ⟨rfl, hb1⟩
              have HB1 := Lib.hid (HB0.out.trans (hb1.mono HB0.out.size))
              have R1 := Lib.hid (HR2.out.up HB1.out)
              clear hb1
              go_wp2_with fail
              refine (refMay_any A2 len2 cap2 _ l H2.out R1.out (by omega)).mono ?_
              rintro e w2 ⟨rfl, hb2⟩
              have HB2 := Lib.hid (below_up HB1.out hb2)
              clear hb2 R1 HB1
              have R2 := Lib.hid (HRR.out.up HB2.out)
              go_wp2_with fail
              refine (RefRight_any Ar j cr _ RS HL.out R2.out HI.out (by omega)).mono ?_
              rintro e w3 ⟨rfl, hb3⟩
              have HB3 := Lib.hid (below_up HB2.out hb3)
              clear hb3 HB2 R2
              go_wp2_with fail
              go_ret2
              rw [HD.out.1, HD.out.2]
              exact ⟨⟨_, _, _, rfl, Sc.Own.nil _ _⟩, HB3.out⟩
          · have e2 := mayX_not g2
            clear g1 g2
            go_wp2_with fail
            refine (refMay_any A len cap _ T H.out R0.out (by omega)).mono ?_
            rintro e w1 ⟨rfl, hb1⟩
            have HB1 := Lib.hid (HB0.out.trans (hb1.mono HB0.out.size))
            have R1 := Lib.hid (HR2.out.up HB1.out)
            clear hb1
            go_wp2_with fail
            refine (refMay_any A2 len2 cap2 _ l H2.out R1.out (by omega)).mono ?_
            rintro e w2 ⟨rfl, hb2⟩
            have HB2 := Lib.hid (below_up HB1.out hb2)
            clear hb2 R1 HB1
            have R2 := Lib.hid (HRR.out.up HB2.out)
            go_wp2_with fail
            go_ret2
            rw [HD.out.1, HD.out.2]
            exact ⟨⟨_, _, _, rfl, Sc.Own.nil _ _⟩, HB2.out⟩
        · have e1 := mayX_not g1
          clear g1
          go_wp2_with fail
          refine (refMay_any A len cap _ T H.out R0.out (by omega)).mono ?_
          rintro e w1 ⟨rfl, hb1⟩
          have HB1 := Lib.hid (HB0.out.trans (hb1.mono HB0.out.size))
          have R1 := Lib.hid (HR2.out.up HB1.out)
          clear hb1
          go_wp2_with fail
          go_ret2
          rw [HD.out.1, HD.out.2]
          exact ⟨⟨_, _, _, rfl, Sc.Own.nil _ _⟩, HB1.out⟩
end Go.Proofs.Ytdpjblepcpjomaa.Rb
