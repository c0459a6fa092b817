/-
  One call of the law: Back.
-/
import Derived.Test.YtlplhllcohoeaaaStd
namespace Go.Proofs.Ytlplhllcohoeaaa
open Go.RowKit
section
variable {B : Nat} {w w' : World} {sb db tb : Nat} {room : Int} {N : Nat} {dn : Bool} {l sf : List Int} {T : Nat → Prop} {Ah : Option Addr} {ch : Nat} {As : Option Addr} {cs : Nat} {u v : Value}
set_option maxRecDepth 40000 in
set_option maxHeartbeats 4000000 in
theorem step_back (h : Sv B w sb db tb room N dn l sf T Ah ch As cs) (at_ n : Int) (A : Option Addr) (m c : Nat) (b : List Int) (PA : Option Addr) (pm pc : Nat) (xs : List Int) (_hc : CallIn B w at_ n A m c b PA pm xs) (hN : N ≤ 900000) (hB : B ≤ w.heap.size) :
    ∃ dn', Calls Try.prog 21 #[.pointer (some ⟨sb, 0, none⟩), .agg (callC 3 at_ n A m c PA pm pc)] w fun e w' => e = .returned (.bool true) ∧ St B w' sb room (N + 600) dn' ∧ Below B w w' := by
  unfold callC
  obtain ⟨W, hW⟩ : ∃ W, W = w.alloc (.cells #[.int .i64 3, .int .i64 at_, .int .i64 n, .slice A m c, .slice PA pm pc] 53) := ⟨_, rfl⟩
  have hb1 : Below w.heap.size w W := by rw [hW]; exact (Below.refl _ _).alloc (Nat.le_refl _) _
  have HH := Lib.hid (h.up hb1)
  have HB := Lib.hid (hb1.mono hB)
  have hz := hb1.size
  have hvb : w.heap.size < W.heap.size := by rw [hW]; simp
  have hv0 : W.cell? ⟨w.heap.size, 0, none⟩ = some (.int .i64 3) := by rw [hW]; exact cell_new w _ 53 0
  have hv2 : W.cell? ⟨w.heap.size, 2, none⟩ = some (.int .i64 n) := by rw [hW]; exact cell_new w _ 53 2
  have hnv : ¬ T w.heap.size := fun hx => Nat.lt_irrefl _ (h.tp.lt _ hx)
  have hsv : sb ≠ w.heap.size := fun e => by have := h.lt; omega
  obtain ⟨c0, c1, c2, c3⟩ := HH.out.cells
  have hlt := HH.out.lt
  have hlen := h.len
  have hns := HH.out.ns
  obtain ⟨dn', hA⟩ : ∃ dn', Calls Try.prog 18 #[.pointer (some ⟨tb, 0, none⟩), .int .i64 n] W.drew fun e w' => ∃ z l' sf' T', e = .returned (.int .i64 z) ∧ Tp B w' db tb room (N + 600) dn' l' sf' T' ∧ Fr W.drew w' T T' ∧ BackEnd dn dn' l l' sf sf' n z := (HH.out.drewN 1).tp.back n hN (by show B ≤ W.heap.size; omega)
  have HA := Lib.hid hA
  refine ⟨dn', ?_⟩
  have HW := Lib.hid hW
  clear h _hc hb1 hW hA
  go_enter Try.func21, Try.ntmps21
  go_wp2_with (rw [← HW.out])
  go_region_held3 (fun w' => w'.cell? ⟨sb, 1, none⟩ = some (.pointer (some ⟨tb, 0, none⟩)) ∧ w'.cell? ⟨w.heap.size, 2, none⟩ = some (.int .i64 n))
    (first | exact ⟨(hf.cell hlt hns 1).trans c1, (hf.cell hvb hnv 2).trans hv2⟩ | (go_keep; done))
    ((go_at_call_of 18 (Value.pointer (some ⟨tb, 0, Option.none⟩)); refine HA.out.mono ?_; rintro e w2 ⟨z, l', sf', T', rfl, ht, hf, hend⟩))
  have HT := Lib.hid ht
  have HD := Lib.hid (HH.out.hd.fr hf.drew hns)
  have HS := Lib.hid (HH.out.sv.fr hf.drew)
  have HR := Lib.hid (HH.out.hv.fr hf.drew)
  have hns1 : ¬ T' sb := (hf.drew.beside sb hlt hns).2
  have HB1 := Lib.hid (HB.out.trans (HH.out.low hf.drew (by omega)))
  have hz1 : W.heap.size ≤ w2.heap.size := hf.size
  have HBS := Lib.hid HH.out.bs
  have g2 : w2.cell? ⟨w.heap.size, 2, none⟩ = some (.int .i64 n) := (hf.cell hvb hnv 2).trans hv2
  obtain ⟨d0, d1, d2, d3⟩ := HD.out.cells
  have HEND := Lib.hid hend
  clear ht hf hend c0 c1 c2 c3 hv0 hv2 HA HH HB
  rcases HEND.out with ⟨rfl, hbad, rfl, rfl, rfl⟩ | ⟨rfl, h0, h1, rfl, hsf⟩ | ⟨rfl, h0, h1, rfl, rfl, rfl⟩
  · have hg : decide (n < 0) = true ∨ (decide (n < 0) = false ∧ (l'.length : Int) < n) := by
      by_cases hn : n < 0
      · exact .inl (decide_eq_true hn)
      · exact .inr ⟨decide_eq_false hn, hbad.resolve_left hn⟩
    have HSV : Hid (Sv B w2 sb db tb room (N + 600) dn' l' sf' T' Ah ch As cs) := Lib.hid ⟨HD.out, HT.out, hns1, HBS.out, HR.out, HS.out⟩
    rcases hg with hg | ⟨hg, hg2⟩
    · go_wp2_with fail
      go_quiet (fail)
      have HSQ := Lib.hid (HSV.out.drewN nq)
      have HBQ := Lib.hid (belowDrewN HB1.out nq)
      generalize w2.drewN nq = w3 at *
      go_wp2_with fail
      go_ret
      exact ⟨rfl, ⟨_, _, _, _, _, _, _, _, _, HSQ.out⟩, HBQ.out⟩
    · go_wp2_with fail
      go_quiet (fail)
      have HSQ := Lib.hid (HSV.out.drewN nq)
      have HBQ := Lib.hid (belowDrewN HB1.out nq)
      generalize w2.drewN nq = w3 at *
      go_wp2_with fail
      go_ret
      exact ⟨rfl, ⟨_, _, _, _, _, _, _, _, _, HSQ.out⟩, HBQ.out⟩
  · obtain ⟨x, rfl⟩ := Int.eq_ofNat_of_zero_le h0
    have hxl : x ≤ l.length := by omega
    have hg : decide ((x : Int) < 0) = false := decide_eq_false (by omega)
    have hg2 : ¬ ((l.length : Int) < (x : Int)) := by omega
    have hcap := HR.out.1.cap
    have hxc : (x : Int) ≤ (ch : Int) := by omega
    have hx0 : (0 : Int) ≤ (x : Int) := by omega
    rw [Int.toNat_natCast] at hsf
    have htk : (l.take x).length = x := by rw [List.length_take]; omega
    have HSF := Lib.hid hsf
    have hv8 : w.heap.size < w2.heap.size := by omega
    have ht8 : ¬ T' sb := hns1
    have hlt2 := HD.out.lt
    go_wp2_with fail
    go_quiet (fail)
    have HTQ : Hid (Tp B (w2.drewN nq) db tb room (N + 600) dn' (l.take x) sf' T') := Lib.hid (HT.out.up (belowDrewN (Below.refl _ _) nq))
    have HDQ : Hid (Hd (w2.drewN nq) sb db tb (.slice Ah l.length ch) (.slice As sf.length cs)) := Lib.hid (HD.out.up (belowDrewN (Below.refl _ _) nq))
    have HRQ := Lib.hid (HR.out.up (belowDrewN (Below.refl _ _) nq))
    have HSQ := Lib.hid (HS.out.up (belowDrewN (Below.refl _ _) nq))
    have HBQ := Lib.hid (belowDrewN HB1.out nq)
    have q2 : (w2.drewN nq).cell? ⟨w.heap.size, 2, none⟩ = some (.int .i64 x) := g2
    have hv9 : w.heap.size < (w2.drewN nq).heap.size := hv8
    have hz9 : W.heap.size ≤ (w2.drewN nq).heap.size := hz1
    clear HT HD HR HS HB1 g2 d0 d1 d2 d3 hv8 hlt2
    generalize w2.drewN nq = w3 at *
    obtain ⟨d0, d1, d2, d3⟩ := HDQ.out.cells
    have z2 := HDQ.out.froz 2
    have hlt3 := HDQ.out.lt
    have hCP : Hid (Calls Try.prog 15 #[.slice Ah x ch] w3.drew fun e w' => (∃ A' c, e = .returned (.slice A' x c) ∧ OwnB w' w3.heap.size A' x c (l.take x)) ∧ Below w3.heap.size w3.drew w') := Lib.hid (Copy_any Ah x ch w3.drew (l.take x) htk (HRQ.out.1.rd.take x) (by omega))
    go_wp2_with fail
    go_upto_region 11 with (fail)
    go_cut [5] (fun v wx => v = .int .i64 0 ∧ ∃ A3 c3, Hid (Hd wx sb db tb (.slice A3 x c3) (.slice As sf.length cs) ∧ Tp B wx db tb room (N + 600) dn' (l.take x) sf' T' ∧ RowF wx B T' A3 c3 (l.take x) ∧ RowF wx B T' As cs sf ∧ Below B w wx ∧ wx.cell? ⟨w.heap.size, 2, none⟩ = some (.int .i64 x) ∧ W.heap.size ≤ wx.heap.size))
    case first =>
      go_wp2_with fail
      have y2 : w3.drew.cell? ⟨sb, 2, none⟩ = some (.slice Ah l.length ch) := d2
      have y3 : w3.drew.cell? ⟨w.heap.size, 2, none⟩ = some (.int .i64 x) := q2
      go_region_law ((go_simp; go_at_call 15; refine hCP.out.mono ?_; rintro e w6 ⟨⟨A6, c6, rfl, ho6⟩, hb6⟩; have HO6 := Lib.hid ho6; have HB6 := Lib.hid hb6; clear ho6 hb6; have y26 := (HB6.out.cell (p := ⟨sb, 2, Option.none⟩) hlt3).trans y2; have z26 := (HB6.out.frozen (p := ⟨sb, 2, Option.none⟩) hlt3).trans z2))
      all_goals
        have hb36 : Below w3.heap.size w3 w6 := (belowDrewN (Below.refl _ _) 1).trans HB6.out
        have hd6 := HDQ.out.up hb36
        have hx : Hd (w6.setCell ⟨sb, 2, none⟩ (.slice A6 x c6)) sb db tb (.slice A6 x c6) (.slice As sf.length cs) ∧ Tp B (w6.setCell ⟨sb, 2, none⟩ (.slice A6 x c6)) db tb room (N + 600) dn' (l.take x) sf' T' ∧ RowF (w6.setCell ⟨sb, 2, none⟩ (.slice A6 x c6)) B T' A6 c6 (l.take x) ∧ RowF (w6.setCell ⟨sb, 2, none⟩ (.slice A6 x c6)) B T' As cs sf ∧ Below B w (w6.setCell ⟨sb, 2, none⟩ (.slice A6 x c6)) ∧ (w6.setCell ⟨sb, 2, none⟩ (.slice A6 x c6)).cell? ⟨w.heap.size, 2, none⟩ = some (.int .i64 x) ∧ W.heap.size ≤ (w6.setCell ⟨sb, 2, none⟩ (.slice A6 x c6)).heap.size :=
          ⟨hd6.set2 _, (HTQ.out.up hb36).sets hns1 _ _, (RowF.new HO6.out HTQ.out.lt (by omega)).sets hd6 (fun y => by simp) (fun y => by simp) _ _, (HSQ.out.up hb36).sets hd6 (fun y => by simp) (fun y => by simp) _ _, (HBQ.out.trans (hb36.mono (by omega))).setCell HBS.out _,
            (World.cell?_of_block (w := w6) (a := ⟨w.heap.size, 2, none⟩) (heap_setCell_other _ _ _ _ (Ne.symm hsv))).trans ((hb36.cell (p := ⟨w.heap.size, 2, none⟩) hv9).trans q2), by simpa using Nat.le_trans hz9 hb36.size⟩
        have HX := Lib.hid hx
        clear hb36 hd6 hx
        go_wp2_with fail
        go_meet
        exact ⟨rfl, _, _, HX.out⟩
    case rest =>
      obtain ⟨rfl, A3, c3, HX⟩ := hcut
      have hd := HX.out.1
      have hv := HX.out.2.2.2.2.2.1
      have hsz := HX.out.2.2.2.2.2.2
      obtain ⟨e0, e1, e2, e3⟩ := hd.cells
      clear hd HTQ HDQ HRQ HSQ HBQ q2 d0 d1 d2 d3 z2 hCP hlt3
      by_cases hcs : x < sf.length
      · rw [if_pos (by omega)] at hsf
        have hcs2 : (x : Int) < (sf.length : Int) := by omega
        go_wp2_with fail
        go_quiet (fail)
        have HXQ : Hid (Hd (wc.drewN nq) sb db tb (.slice A3 x c3) (.slice As sf.length cs) ∧ Tp B (wc.drewN nq) db tb room (N + 600) dn' (l.take x) sf' T' ∧ RowF (wc.drewN nq) B T' A3 c3 (l.take x) ∧ Below B w (wc.drewN nq) ∧ W.heap.size ≤ (wc.drewN nq).heap.size) := Lib.hid
          ⟨HX.out.1.up (belowDrewN (Below.refl _ _) nq), HX.out.2.1.up (belowDrewN (Below.refl _ _) nq), HX.out.2.2.1.up (belowDrewN (Below.refl _ _) nq), belowDrewN HX.out.2.2.2.2.1 nq, hsz⟩
        clear HX e0 e1 e2 e3 hv hsz
        generalize wc.drewN nq = w4 at *
        obtain ⟨e0, e1, e2, e3⟩ := HXQ.out.1.cells
        have hsz := HXQ.out.2.2.2.2
        go_wp2_with fail
        refine (Copy_any A3 x c3 w4 (l.take x) htk HXQ.out.2.2.1.1.rd (by omega)).mono ?_
        rintro e w5 ⟨⟨A5, c5, rfl, ho⟩, hb5⟩
        have hd5 := HXQ.out.1.up hb5
        obtain ⟨f0, f1, f2, f3⟩ := hd5.cells
        have z3 := hd5.froz 3
        have HSV : Hid (Sv B (w5.setCell ⟨sb, 3, none⟩ (.slice A5 x c5)) sb db tb room (N + 600) dn' (l.take x) (l.take x) T' A3 c3 A5 c5) := Lib.hid (by
          refine ⟨?_, ?_, hns1, HBS.out, (HXQ.out.2.2.1.up hb5).sets hd5 (fun y => by simp) (fun y => by simp) _ _, (RowF.new ho HXQ.out.2.1.lt (by omega)).sets hd5 (fun y => by simp) (fun y => by simp) _ _⟩
          · rw [htk]; exact hd5.set3 _
          · have := (HXQ.out.2.1.up hb5).sets hns1 3 (.slice A5 x c5)
            rwa [hsf] at this)
        have HBE : Hid (Below B w (w5.setCell ⟨sb, 3, none⟩ (.slice A5 x c5))) := Lib.hid ((HXQ.out.2.2.2.1.trans (hb5.mono (by omega))).setCell HBS.out _)
        clear ho hb5 hd5 e0 e1 e2 e3
        go_wp2_with fail
        go_ret
        exact ⟨rfl, ⟨_, _, _, _, _, _, _, _, _, HSV.out⟩, HBE.out⟩
      · rw [if_neg (by omega)] at hsf
        have hcs2 : ¬ (x : Int) < (sf.length : Int) := by omega
        have HSV : Hid (Sv B wc sb db tb room (N + 600) dn' (l.take x) sf T' A3 c3 As cs) := Lib.hid (by
          refine ⟨?_, ?_, hns1, HBS.out, HX.out.2.2.1, HX.out.2.2.2.1⟩
          · rw [htk]; exact HX.out.1
          · have := HX.out.2.1
            rwa [hsf] at this)
        go_wp2_with fail
        go_quiet (fail)
        have HSW := Lib.hid (HSV.out.drewN nq)
        have HBE := Lib.hid (belowDrewN HX.out.2.2.2.2.1 nq)
        generalize wc.drewN nq = w4 at *
        go_wp2_with fail
        go_ret
        exact ⟨rfl, ⟨_, _, _, _, _, _, _, _, _, HSW.out⟩, HBE.out⟩
  · have hg : decide (n < 0) = false := decide_eq_false (by omega)
    have hg2 : ¬ ((l'.length : Int) < n) := by omega
    have HSV : Hid (Sv B w2 sb db tb room (N + 600) true l' sf' T' Ah ch As cs) := Lib.hid ⟨HD.out, HT.out, hns1, HBS.out, HR.out, HS.out⟩
    go_wp2_with fail
    go_quiet (fail)
    have HSQ := Lib.hid (HSV.out.drewN nq)
    have HBQ := Lib.hid (belowDrewN HB1.out nq)
    have q0 : (w2.drewN nq).cell? ⟨sb, 0, none⟩ = some (.pointer (some ⟨db, 0, none⟩)) := d0
    generalize w2.drewN nq = w3 at *
    go_wp2_with fail
    refine HSQ.out.tp.down.mono ?_
    rintro e w4 ⟨rfl, rfl⟩
    go_wp2_with fail
    go_ret
    exact ⟨rfl, ⟨_, _, _, _, _, _, _, _, _, HSQ.out⟩, HBQ.out⟩
end
end Go.Proofs.Ytlplhllcohoeaaa
