/-
  One call of the law: Sync, a loss of power with Open.
-/
import Derived.Test.YtlplhllcohoeaaaStc
namespace Go.Proofs.Ytlplhllcohoeaaa
open Go.RowKit
/-- The state's block. -/
def Hd (w : World) (sb db tb : Nat) (u v : Value) : Prop := w.heap[sb]? = some (.cells #[.pointer (some ⟨db, 0, none⟩), .pointer (some ⟨tb, 0, none⟩), u, v] 49 (0, 0))
section
variable {B : Nat} {w w' : World} {sb db tb : Nat} {room : Int} {N : Nat} {dn : Bool} {l sf : List Int} {T : Nat → Prop} {Ah : Option Addr} {ch : Nat} {As : Option Addr} {cs : Nat} {u v : Value}
theorem Hd.cells (h : Hd w sb db tb u v) : w.cell? ⟨sb, 0, none⟩ = some (.pointer (some ⟨db, 0, none⟩)) ∧ w.cell? ⟨sb, 1, none⟩ = some (.pointer (some ⟨tb, 0, none⟩)) ∧ w.cell? ⟨sb, 2, none⟩ = some u ∧ w.cell? ⟨sb, 3, none⟩ = some v :=
  ⟨cell_of_row _ _ 0 _ 49 (0, 0) h, cell_of_row _ _ 1 _ 49 (0, 0) h, cell_of_row _ _ 2 _ 49 (0, 0) h, cell_of_row _ _ 3 _ 49 (0, 0) h⟩
theorem Hd.froz (h : Hd w sb db tb u v) (j : Nat) : w.frozen? ⟨sb, j, none⟩ = false := by
  unfold Hd at h
  simp [World.frozen?, h]
theorem Hd.lt (h : Hd w sb db tb u v) : sb < w.heap.size := (Array.getElem?_eq_some_iff.1 h).1
theorem Hd.up (h : Hd w sb db tb u v) (hb : Below w.heap.size w w') : Hd w' sb db tb u v := (hb.block _ h.lt).trans h
theorem Hd.fr {T' : Nat → Prop} (h : Hd w sb db tb u v) (hf : Fr w w' T T') (hn : ¬ T sb) : Hd w' sb db tb u v := (hf.beside _ h.lt hn).1.trans h
theorem Hd.set1 (h : Hd w sb db tb u v) (t2 : Nat) : Hd (w.setCell ⟨sb, 1, none⟩ (.pointer (some ⟨t2, 0, none⟩))) sb db t2 u v := by
  unfold Hd
  rw [heap_setCell_same _ _ _ _ _ _ h]
  rfl
theorem Hd.set2 (h : Hd w sb db tb u v) (x : Value) : Hd (w.setCell ⟨sb, 2, none⟩ x) sb db tb x v := by
  unfold Hd
  rw [heap_setCell_same _ _ _ _ _ _ h]
  rfl
theorem Hd.set3 (h : Hd w sb db tb u v) (x : Value) : Hd (w.setCell ⟨sb, 3, none⟩ x) sb db tb u x := by
  unfold Hd
  rw [heap_setCell_same _ _ _ _ _ _ h]
  rfl
theorem Sv.hd (h : Sv B w sb db tb room N dn l sf T Ah ch As cs) : Hd w sb db tb (.slice Ah l.length ch) (.slice As sf.length cs) := h.head
theorem Tp.sets (h : Tp B w db tb room N dn l sf T) (hn : ¬ T sb) (j : Nat) (x : Value) : Tp B (w.setCell ⟨sb, j, none⟩ x) db tb room N dn l sf T :=
  h.keep (by simp) fun g hg => heap_setCell_other _ _ _ _ (fun e => hn (by have e' : g = sb := e; rw [← e']; exact hg))
theorem RowF.up {A : Option Addr} {c : Nat} (h : RowF w B T A c l) (hb : Below w.heap.size w w') : RowF w' B T A c l := h.fr (Fr.of_below hb)
theorem RowF.sets {A : Option Addr} {c : Nat} (h : RowF w B T A c l) {P Q : Value} (hh : Hd w sb db tb P Q) (hP : ∀ y, P ≠ .int .u8 y) (hQ : ∀ y, Q ≠ .int .u8 y) (j : Nat) (x : Value) : RowF (w.setCell ⟨sb, j, none⟩ x) B T A c l := by
  have hodd : Odd w sb 49 := cells_odd hh (by simpa using ⟨hP, hQ⟩)
  exact ⟨h.1.keepX hodd (by decide) fun g hg => heap_setCell_other _ _ _ _ hg, h.2⟩
/-- A row that was made behind all of the disk's blocks. -/
theorem RowF.new {A : Option Addr} {n c : Nat} {w1 : World} (h : OwnB w w1.heap.size A n c l) (hT : ∀ g, T g → g < w1.heap.size) (hB : B ≤ w1.heap.size) : RowF w B T A c l := by
  have e := h.1
  subst e
  refine ⟨h.mono hB, fun a ea hx => ?_⟩
  have h1 := hT _ hx
  rcases h.2.2 with ⟨hv, _⟩ | ⟨g', cap, cur, hv, hge, _⟩
  · rw [ea] at hv; cases hv
  · rw [ea] at hv; injection hv with hv _ _; injection hv with hv; rw [hv] at h1; simp only at h1; omega
set_option maxRecDepth 40000 in
set_option maxHeartbeats 4000000 in
theorem step_sync (h : Sv B w sb db tb room N dn l sf T Ah ch As cs) (at_ n : Int) (A : Option Addr) (m c : Nat) (PA : Option Addr) (pm pc : Nat) (hN : N ≤ 900000) (hB : B ≤ w.heap.size) :
    ∃ dn', Calls Try.prog 21 #[.pointer (some ⟨sb, 0, none⟩), .agg (callC 4 at_ n A m c PA pm pc)] w fun e w' => e = .returned (.bool true) ∧ St B w' sb room (N + 600) dn' ∧ Below B w w' := by
  unfold callC
  have hb1 : Below w.heap.size w (w.alloc (.cells #[.int .i64 4, .int .i64 at_, .int .i64 n, .slice A m c, .slice PA pm pc] 53)) := (Below.refl _ _).alloc (Nat.le_refl _) _
  have HH := Lib.hid (h.up hb1)
  have HB := Lib.hid (hb1.mono hB)
  have hz := hb1.size
  have hlen := h.len
  obtain ⟨c0, c1, c2, c3⟩ := HH.out.cells
  obtain ⟨dn', hA⟩ := HH.out.tp.sync hN (by omega)
  have HA := Lib.hid hA
  refine ⟨dn', ?_⟩
  clear h hb1 hA
  go_enter Try.func21, Try.ntmps21
  go_wp2_with fail
  refine HA.out.mono ?_
  rintro e w2 ⟨z, sf', T', rfl, ht, hf, hend⟩
  have HT := Lib.hid ht
  have HD := Lib.hid (HH.out.hd.fr hf HH.out.ns)
  have HR := Lib.hid (HH.out.hv.fr hf)
  have HNS := Lib.hid ((hf.beside sb HH.out.lt HH.out.ns).2)
  have HBS := Lib.hid HH.out.bs
  have HS := Lib.hid (HH.out.sv.fr hf)
  have HB2 := Lib.hid (HB.out.trans (HH.out.low hf (by omega)))
  have hz2 := hf.size
  obtain ⟨e0, e1, e2, e3⟩ := HD.out.cells
  clear ht hf HA HH HB c0 c1 c2 c3
  rcases hend with ⟨rfl, rfl, rfl⟩ | ⟨rfl, rfl, rfl⟩
  · go_wp2_with fail
    refine (Copy_any Ah sf'.length ch w2 sf' rfl HR.out.1.rd (by omega)).mono ?_
    rintro e w3 ⟨⟨A3, c3, rfl, ho⟩, hb3⟩
    have HD3 := Lib.hid (HD.out.up hb3)
    have HT3 := Lib.hid (HT.out.up hb3)
    have HR3 := Lib.hid (HR.out.up hb3)
    have HN3 := Lib.hid (RowF.new ho HT.out.lt (by omega : B ≤ w2.heap.size))
    have HB3 := Lib.hid (HB2.out.trans (hb3.mono (by omega : B ≤ w2.heap.size)))
    obtain ⟨f0, f1, f2, f3⟩ := HD3.out.cells
    have z3 := HD3.out.froz 3
    have HSV : Hid (Sv B (w3.setCell ⟨sb, 3, none⟩ (.slice A3 sf'.length c3)) sb db tb room (N + 600) dn' sf' sf' T' Ah ch A3 c3) := Lib.hid
      ⟨HD3.out.set3 _, HT3.out.sets HNS.out _ _, HNS.out, HBS.out, HR3.out.sets HD3.out (fun y => by simp) (fun y => by simp) _ _, HN3.out.sets HD3.out (fun y => by simp) (fun y => by simp) _ _⟩
    have HBE : Hid (Below B w (w3.setCell ⟨sb, 3, none⟩ (.slice A3 sf'.length c3))) := Lib.hid (HB3.out.setCell HBS.out _)
    clear ho hb3 e0 e1 e2 e3
    go_wp2_with fail
    go_ret
    exact ⟨rfl, ⟨_, _, _, _, _, _, _, _, _, HSV.out⟩, HBE.out⟩
  · have HSV : Hid (Sv B w2 sb db tb room (N + 600) true l sf' T' Ah ch As cs) := Lib.hid ⟨HD.out, HT.out, HNS.out, HBS.out, HR.out, HS.out⟩
    go_wp2_with fail
    refine HT.out.down.mono ?_
    rintro e w3 ⟨rfl, rfl⟩
    go_wp2_with fail
    go_ret
    exact ⟨rfl, ⟨_, _, _, _, _, _, _, _, _, HSV.out⟩, HB2.out⟩
set_option maxRecDepth 40000 in
set_option maxHeartbeats 4000000 in
theorem step_open (h : Sv B w sb db tb room N dn l sf T Ah ch As cs) (at_ n : Int) (A : Option Addr) (m c : Nat) (b : List Int) (PA : Option Addr) (pm pc : Nat) (xs : List Int) (hc : CallIn B w at_ n A m c b PA pm xs) (hN : N ≤ 900000) (hB : B ≤ w.heap.size) :
    Calls Try.prog 21 #[.pointer (some ⟨sb, 0, none⟩), .agg (callC 6 at_ n A m c PA pm pc)] w fun e w' => e = .returned (.bool true) ∧ St B w' sb room (N + 600) false ∧ Below B w w' := by
  unfold callC
  obtain ⟨W, hW⟩ : ∃ W, W = w.alloc (.cells #[.int .i64 6, .int .i64 at_, .int .i64 n, .slice A m c, .slice PA pm pc] 53) := ⟨_, rfl⟩
  have hb1 : Below w.heap.size w W := by rw [hW]; exact (Below.refl _ _).alloc (Nat.le_refl _) _
  have HH := Lib.hid (h.up hb1)
  have HB := Lib.hid (hb1.mono hB)
  have hz := hb1.size
  have hvb : w.heap.size < W.heap.size := by rw [hW]; simp
  have hv0 : W.cell? ⟨w.heap.size, 0, none⟩ = some (.int .i64 6) := by rw [hW]; exact cell_new w _ 53 0
  have hv4 : W.cell? ⟨w.heap.size, 4, none⟩ = some (.slice PA pm pc) := by rw [hW]; exact cell_new w _ 53 4
  have hnv : ¬ T w.heap.size := fun hx => Nat.lt_irrefl _ (h.tp.lt _ hx)
  obtain ⟨c0, c1, c2, c3⟩ := HH.out.cells
  have hlt := HH.out.lt
  have hlen := h.len
  have hns := HH.out.ns
  have hri : RdI W.drew W.drew.heap.size PA xs := fun k v hv => by
    obtain ⟨g, off, e, hg, hcl⟩ := hc.rp k v hv
    exact ⟨g, off, e, by show g < W.heap.size; omega, (hb1.cell (p := ⟨g, off + k, none⟩) (by show g < _; omega)).trans hcl⟩
  have hps : ∀ a, PA = some a → xs ≠ [] → ¬ T a.block := fun a e hne hx => by
    obtain ⟨v, hv⟩ := get_some xs 0 (List.length_pos_iff.2 hne)
    obtain ⟨g, off, e2, hg, _⟩ := hc.rp 0 v hv
    rw [e] at e2; injection e2 with e2
    have := h.tp.low _ hx
    rw [e2] at this
    simp only at this
    omega
  have HA : Hid (Calls Try.prog 34 #[.pointer (some ⟨db, 0, none⟩), .slice PA pm pc] W.drew fun e w' => ∃ T', e = .returned (.tuple #[]) ∧ Cp B w' db room N sf T' ∧ Fr W.drew w' T T') := Lib.hid ((HH.out.drewN 1).tp.crash hN (by show B ≤ W.heap.size; omega) PA pm pc xs hc.x hc.hp hri hps)
  have HW := Lib.hid hW
  clear h hc hb1 hW hri hps
  go_enter Try.func21, Try.ntmps21
  go_wp2_with (rw [← HW.out])
  go_region_held3 (fun w' => w'.cell? ⟨sb, 0, none⟩ = some (.pointer (some ⟨db, 0, none⟩)) ∧ w'.cell? ⟨w.heap.size, 4, none⟩ = some (.slice PA pm pc))
    (first | exact ⟨(hf.cell hlt hns 0).trans c0, (hf.cell hvb hnv 4).trans hv4⟩ | (go_keep; done))
    ((go_at_call_of 34 (Value.pointer (some ⟨db, 0, Option.none⟩)); refine HA.out.mono ?_; rintro e wp1 ⟨T', rfl, ht, hf⟩))
  have HC1 := Lib.hid ht
  have HF1 := Lib.hid hf.drew
  have HD1 := Lib.hid (HH.out.hd.fr hf.drew hns)
  have HS1 := Lib.hid (HH.out.sv.fr hf.drew)
  have hns1 : ¬ T' sb := (hf.drew.beside sb hlt hns).2
  have HB1 := Lib.hid (HB.out.trans (HH.out.low hf.drew (by omega)))
  have hz1 : W.heap.size ≤ wp1.heap.size := hf.size
  have HBS := Lib.hid HH.out.bs
  obtain ⟨d0, d1, d2, d3⟩ := HD1.out.cells
  have hlt1 := HD1.out.lt
  clear ht hf c0 c1 c2 c3 hv0 hv4 HA HH HB
  have HO : Hid (Calls Try.prog 9 #[.pointer (some ⟨db, 0, none⟩), .int .i64 sf.length] wp1.drew fun e w' => ∃ tb T2, e = .returned (.tuple #[.pointer (some ⟨tb, 0, none⟩), .int .i64 0]) ∧ Tp B w' db tb room (N + 600) false sf sf T2 ∧ Fr wp1.drew w' T' T2) := Lib.hid ((HC1.out.up (belowDrewN (Below.refl _ _) 1) : Cp B wp1.drew db room N sf T').open hN (by show B ≤ wp1.heap.size; omega))
  go_wp2_with fail
  go_region_held3 (fun w' => w'.cell? ⟨sb, 0, none⟩ = some (.pointer (some ⟨db, 0, none⟩)) ∧ w'.cell? ⟨sb, 3, none⟩ = some (.slice As sf.length cs))
    (first | exact ⟨(hf2.cell hlt1 hns1 0).trans d0, (hf2.cell hlt1 hns1 3).trans d3⟩ | (go_keep; done))
    ((go_at_call_of 9 (Value.pointer (some ⟨db, 0, Option.none⟩)); refine HO.out.mono ?_; rintro e wp2 ⟨t2, T2, rfl, ht2, hf2⟩))
  have HT2 := Lib.hid ht2
  have HD2 := Lib.hid (HD1.out.fr hf2.drew hns1)
  have HS2 := Lib.hid (HS1.out.fr hf2.drew)
  have hns2 : ¬ T2 sb := (hf2.drew.beside sb hlt1 hns1).2
  have HB2 := Lib.hid (HB1.out.trans (hf2.drew.below (by omega) (fun g hg hx => by
    obtain ⟨_, _, _, _, _, _, _, _, _, _, hlow⟩ := HC1.out
    have := hlow g hx
    omega)))
  have hz2 : wp1.heap.size ≤ wp2.heap.size := hf2.size
  obtain ⟨e0, e1, e2, e3⟩ := HD2.out.cells
  clear ht2 hf2 d0 d1 d2 d3 HO HC1 HF1 HD1 HS1
  go_wp2_with fail
  refine (Copy_any As sf.length cs wp2 sf rfl HS2.out.1.rd (by omega)).mono ?_
  rintro e w3 ⟨⟨A3, c3, rfl, ho⟩, hb3⟩
  have HD3 := Lib.hid (HD2.out.up hb3)
  have HT3 := Lib.hid (HT2.out.up hb3)
  have HS3 := Lib.hid (HS2.out.up hb3)
  have HN3 := Lib.hid (RowF.new ho HT2.out.lt (by omega : B ≤ wp2.heap.size))
  have HB3 := Lib.hid (HB2.out.trans (hb3.mono (by omega : B ≤ wp2.heap.size)))
  obtain ⟨f0, f1, f2, f3⟩ := HD3.out.cells
  have z1 := HD3.out.froz 1
  have z2 := HD3.out.froz 2
  have HSV : Hid (Sv B ((w3.setCell ⟨sb, 1, none⟩ (.pointer (some ⟨t2, 0, none⟩))).setCell ⟨sb, 2, none⟩ (.slice A3 sf.length c3)) sb db t2 room (N + 600) false sf sf T2 A3 c3 As cs) := Lib.hid
    ⟨(HD3.out.set1 t2).set2 _, (HT3.out.sets hns2 _ _).sets hns2 _ _, hns2, HBS.out, (HN3.out.sets HD3.out (fun y => by simp) (fun y => by simp) _ _).sets (HD3.out.set1 t2) (fun y => by simp) (fun y => by simp) _ _, (HS3.out.sets HD3.out (fun y => by simp) (fun y => by simp) _ _).sets (HD3.out.set1 t2) (fun y => by simp) (fun y => by simp) _ _⟩
  have HBE : Hid (Below B w ((w3.setCell ⟨sb, 1, none⟩ (.pointer (some ⟨t2, 0, none⟩))).setCell ⟨sb, 2, none⟩ (.slice A3 sf.length c3))) := Lib.hid ((HB3.out.setCell HBS.out _).setCell HBS.out _)
  clear ho hb3 e0 e1 e2 e3
  go_wp2_with fail
  go_ret
  exact ⟨rfl, ⟨_, _, _, _, _, _, _, _, _, HSV.out⟩, HBE.out⟩
end
end Go.Proofs.Ytlplhllcohoeaaa
