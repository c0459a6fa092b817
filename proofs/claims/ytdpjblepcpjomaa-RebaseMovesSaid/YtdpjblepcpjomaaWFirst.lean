/-
  What rebase.first answers: the runs of a target that stand there for the first time.
-/
import Derived.Test.YtdpjblepcpjomaaWRes
import Derived.Test.YtdpjblepcpjomaaFRows
import Derived.Test.YtdpjblepcpjomaaSFresh
namespace Go.Proofs.Ytdpjblepcpjomaa.Rb
open Go.RowKit
/-- What stays when one row of the call's own is changed: all else. -/
structure Fr (w : World) (X : Option Nat) (w' : World) (X' : Option Nat) : Prop where
  size : w.heap.size ≤ w'.heap.size
  block : ∀ b, b < w.heap.size → X ≠ some b → w'.heap[b]? = w.heap[b]?
  off : ∀ b, b < w.heap.size → X ≠ some b → X' ≠ some b
theorem Fr.refl (w : World) (X : Option Nat) : Fr w X w X := ⟨Nat.le_refl _, fun _ _ _ => rfl, fun _ _ h => h⟩
theorem Fr.trans {w w1 w2 : World} {X X1 X2 : Option Nat} (h : Fr w X w1 X1) (h' : Fr w1 X1 w2 X2) : Fr w X w2 X2 :=
  ⟨Nat.le_trans h.size h'.size, fun b hb hX => (h'.block b (Nat.lt_of_lt_of_le hb h.size) (h.off b hb hX)).trans (h.block b hb hX), fun b hb hX => h'.off b (Nat.lt_of_lt_of_le hb h.size) (h.off b hb hX)⟩
theorem Fr.below {w w' : World} (hb : Below w.heap.size w w') (X : Option Nat) : Fr w X w' X := ⟨hb.size, fun b h _ => hb.block b h, fun _ _ h => h⟩
theorem Fr.grown {w W0 w1 : World} {v v' : Value} (hW : Below w.heap.size w W0) (hg : W0.grownBy w1 v.ownBlock) (hbl : v'.ownBlock = v.ownBlock ∨ v'.ownBlock = some W0.heap.size) : Fr w v.ownBlock w1 v'.ownBlock := by
  refine ⟨Nat.le_trans hW.size hg.size, fun b hb hX => ?_, fun b hb hX => ?_⟩
  · rw [hg.block b (Nat.lt_of_lt_of_le hb hW.size) (fun e => hX e.symm), hW.block b hb]
  · have := hW.size
    rcases hbl with h | h
    · rw [h]; exact hX
    · rw [h]; intro e; cases e; omega
theorem Fr.cell {w w' : World} {X X' : Option Nat} (h : Fr w X w' X') {p : Addr} (hb : p.block < w.heap.size) (hX : X ≠ some p.block) : w'.cell? p = w.cell? p := World.cell?_of_block (h.block _ hb hX)
theorem Fr.frozen {w w' : World} {X X' : Option Nat} (h : Fr w X w' X') {p : Addr} (hb : p.block < w.heap.size) (hX : X ≠ some p.block) : w'.frozen? p = w.frozen? p := by
  unfold World.frozen?; rw [h.block _ hb hX]
/-- A row that reads beside one of the call's own. -/
def RdO (w : World) (X : Option Nat) (L : Nat) (A : Option Addr) (l : List R) : Prop :=
  ∀ k s, l[k]? = some s → ∃ b off, A = some ⟨b, off, none⟩ ∧ b < w.heap.size ∧ (X ≠ some b ∧ L ≤ b) ∧ w.cell? ⟨b, off + k * 2, none⟩ = some (.int .i64 s.1) ∧ w.cell? ⟨b, off + k * 2 + 1, none⟩ = some (.int .i64 s.2)
theorem RdO.fr {w w' : World} {X X' : Option Nat} {L : Nat} {A : Option Addr} {l : List R} (h : RdO w X L A l) (hf : Fr w X w' X') : RdO w' X' L A l := by
  intro k s hs
  obtain ⟨b, off, e, hb, ⟨hX, hL⟩, h0, h1⟩ := h k s hs
  exact ⟨b, off, e, Nat.lt_of_lt_of_le hb hf.size, ⟨hf.off b hb hX, hL⟩, (hf.cell hb hX).trans h0, (hf.cell hb hX).trans h1⟩
theorem RdO.set {w : World} {X : Option Nat} {L : Nat} {A : Option Addr} {l : List R} (h : RdO w X L A l) (p : Addr) (v : Value) (hp : p.block < L) : RdO (w.setCell p v) X L A l := by
  intro k s hs
  obtain ⟨b, off, e, hb, ⟨hX, hL⟩, h0, h1⟩ := h k s hs
  refine ⟨b, off, e, by simpa using hb, ⟨hX, hL⟩, ?_, ?_⟩
  · rw [World.cell?_setCell_far _ _ _ _ (by show p.block ≠ b; omega)]; exact h0
  · rw [World.cell?_setCell_far _ _ _ _ (by show p.block ≠ b; omega)]; exact h1
theorem RdO.rd {w : World} {X : Option Nat} {L : Nat} {A : Option Addr} {l : List R} (h : RdO w X L A l) : Rd w w.heap.size A l := by
  intro k s hs
  obtain ⟨b, off, e, hb, _, h0, h1⟩ := h k s hs
  exact ⟨b, off, e, hb, h0, h1⟩
theorem RdO.nil (w : World) (X : Option Nat) (L : Nat) (A : Option Addr) : RdO w X L A [] := fun k s h => by simp at h
/-- A row that a call made is beside one that was there. -/
theorem Own.rdo {w : World} {base : Nat} {A : Option Addr} {n c : Nat} {l : List R} (h : Own w base A n c l) {X : Option Nat} {L : Nat} (hX : ∀ b, X = some b → b < base) (hL : L ≤ base) : RdO w X L A l := by
  intro k s hs
  obtain ⟨b, off, e, hb, h0, h1⟩ := h.rd k s hs
  have hn : 0 < n := by have := (List.getElem?_eq_some_iff.1 hs).1; have := h.1; omega
  obtain ⟨g, hg, hbg, _⟩ := h.form hn
  rw [hg] at e
  cases e
  exact ⟨b, 0, hg, hb, ⟨fun hx => by have := hX b hx; omega, by omega⟩, h0, h1⟩
/-- What stood of each source. -/
def HadAt (w : World) (B : Nat) (X : Option Nat) (T : List S) (k : Nat) : Prop :=
  ∀ i : Nat, i < 2 → ∃ Ai ni ci, w.cell? ⟨B, i, none⟩ = some (.slice Ai ni ci) ∧ w.frozen? ⟨B, i, none⟩ = false ∧ RdO w X (B+1) Ai (had i (T.take k)) ∧ (had i (T.take k)).length = ni ∧ (Ai = none → ni = 0 ∧ ci = 0)
theorem HadAt.fr {w w' : World} {B : Nat} {X X' : Option Nat} {T : List S} {k : Nat} (h : HadAt w B X T k) (hf : Fr w X w' X') (hB : B < w.heap.size) (hX : X ≠ some B) : HadAt w' B X' T k := by
  intro i hi
  obtain ⟨Ai, ni, ci, h0, h1, h2, h3, h4⟩ := h i hi
  exact ⟨Ai, ni, ci, (hf.cell (p := ⟨B, i, none⟩) hB hX).trans h0, (hf.frozen (p := ⟨B, i, none⟩) hB hX).trans h1, h2.fr hf, h3, h4⟩
theorem rd_one (w : World) (s : R) (g : Nat) (hg : g = w.heap.size) : Rd (w.alloc (.cells #[.int .i64 s.1, .int .i64 s.2] 52)) (g + 1) (some ⟨g, 0, none⟩) [s] := by
  subst hg
  intro k v hv
  cases k with
  | zero =>
    simp at hv; subst hv
    exact ⟨w.heap.size, 0, rfl, by omega, by rw [cell_new]; rfl, by rw [cell_new]; rfl⟩
  | succ k => simp at hv
theorem info80 : (Try.prog.info? 80).map (fun i => (i.zero, i.size, i.bytes)) = some (some (.agg #[.int .i64 0, .int .i64 0, .int .i64 0, .int .i64 0]), 4, 32) := by kernel_rfl
set_option maxHeartbeats 1600000 in
set_option maxRecDepth 100000 in
theorem first_any (A : Option Addr) (len cap : Nat) (w : World) (T : List S) (hlen : T.length = len) (hr : Sc.Rd w w.heap.size A T) (hm : len ≤ 300) (hT : MayX T) :
    Calls Try.prog 36 #[.slice A len cap] w fun e w' => (∃ A' n c, e = .returned (.slice A' n c) ∧ OwnF w' w.heap.size A' n c (runsK T T.length)) ∧ Below w.heap.size w w' := by
  obtain ⟨i0, hi, hz0, hz1, hz2⟩ := info_parts info80
  have H := Lib.hid hlen; have HR := Lib.hid hr; have HT := Lib.hid hT
  clear hlen hr hT
  go_enter Try.func36, Try.ntmps36
  go_wp2_with fail
  have HB0 := Lib.hid ((Below.refl w.heap.size w).alloc (Nat.le_refl _) (.cells #[.slice none 0 0, .slice none 0 0] 78))
  have HH0 : Hid (HadAt (w.alloc (.cells #[.slice none 0 0, .slice none 0 0] 78)) w.heap.size none T 0) := Lib.hid (by
    intro i hi
    refine ⟨none, 0, 0, ?_, ?_, RdO.nil _ _ _ _, rfl, fun _ => ⟨rfl, rfl⟩⟩
    · rw [cell_new]
      have : i = 0 ∨ i = 1 := by omega
      rcases this with rfl | rfl <;> rfl
    · unfold World.frozen?
      rw [heap_alloc_new]; simp)
  have hs0 : w.heap.size < (w.alloc (.cells #[.slice none 0 0, .slice none 0 0] 78)).heap.size := by simp
  generalize (w.alloc (.cells #[.slice none 0 0, .slice none 0 0] 78)) = W0 at *
  generalize hBB : w.heap.size = BB at *
  have HB := Lib.hid hBB; clear hBB
  go_loopw [3, 5, 13] (fun v q i wr => ∃ k n A' c, k ≤ len ∧ n ≤ k * (k + 1) ∧ i = .int .i64 k ∧ q = .int .i64 (Sc.tot (T.take k)) ∧ v = .slice A' n c ∧ OwnF wr (BB+1) A' n c (runsK T k) ∧ HadAt wr BB (Value.slice A' n c).ownBlock T k ∧ BB < wr.heap.size ∧ Below BB w wr) (fun _ _ i _ => len - (intOf i).toNat)
  case atStart => exact ⟨0, 0, _, _, Nat.zero_le _, Nat.zero_le _, rfl, rfl, rfl, OwnF.nil _ _, HH0.out, hs0, HB0.out⟩
  case round =>
    clear HB0 HH0 hs0
    obtain ⟨k, n, A', c, hk, hn, rfl, rfl, rfl, hown, hhad, hBs, hb⟩ := hrel
    have HOw := Lib.hid hown; have HBel := Lib.hid hb; have HHad := Lib.hid hhad
    by_cases hlt : k < len
    · obtain ⟨s, hs⟩ := Sc.get_some T k (by have := H.out; omega)
      obtain ⟨b, off, rfl, hb', h0, h1, h2⟩ := HR.out.below hb (Nat.le_refl _) k s hs
      have hok := HT.out.2.1.at_ hs
      unfold Sc.okS at hok
      have hne := HT.out.1 s (List.mem_of_getElem? hs)
      obtain ⟨sn, hsn⟩ : ∃ sn : Nat, s.src = (sn : Int) := ⟨s.src.toNat, by omega⟩
      have hsn2 : sn < 2 := by omega
      have hsn3 : (sn : Int) < 2 := by omega
      obtain ⟨Ai, ni, ci, e0, e1, hro, hni, hno⟩ := hhad sn hsn2
      rw [hsn] at h0
      have HS := Lib.hid hs; have HSN := Lib.hid hsn; have HRO := Lib.hid hro; have HNI := Lib.hid hni; have HNO := Lib.hid hno
      have hnk : n ≤ 100000 := Nat.le_trans hn (Nat.le_trans (Nat.mul_le_mul hk (Nat.add_le_add_right hk 1)) (Nat.le_trans (Nat.mul_le_mul hm (Nat.add_le_add_right hm 1)) (by decide)))
      have hni2 : ni ≤ 300 := by rw [← hni]; exact Nat.le_trans (had_len _ T k (by have := H.out; omega)) (by omega)
      have HX := Lib.hid (show ∀ b, (Value.slice A' n c).ownBlock = some b → BB + 1 ≤ b ∧ b < wr.heap.size from hown.2.lt)
      clear hs hsn hro hni hno hown hb hhad
      have t0 := Sc.tot_nonneg _ (HT.out.2.1.take k)
      have t1 : Sc.tot (T.take k) + s.len ≤ 1099511627776 := by
        have h3 := Sc.tot_take_le T HT.out.2.1 (k+1)
        rw [Sc.tot_take_succ T k s HS.out] at h3
        have := HT.out.2.2
        omega
      have htq := Sc.tot_take_succ T k s HS.out
      obtain ⟨Q, hQ⟩ : ∃ q, Sc.tot (T.take k) = q := ⟨_, rfl⟩
      rw [hQ] at t0 t1 htq ⊢
      have HQ := Lib.hid hQ; have HTQ := Lib.hid htq
      clear hQ htq
      go_wp2_with fail
      have hwa : Below wr.heap.size wr ((wr.alloc (.cells #[.int .i64 (sn : Int), .int .i64 s.at_, .int .i64 s.len] 56)).alloc (.cells #[.int .i64 s.at_, .int .i64 (s.at_ + s.len)] 52)) := ((Below.refl _ _).alloc (Nat.le_refl _) _).alloc (by simp) _
      have hro2 : Rd ((wr.alloc (.cells #[.int .i64 (sn : Int), .int .i64 s.at_, .int .i64 s.len] 56)).alloc (.cells #[.int .i64 s.at_, .int .i64 (s.at_ + s.len)] 52)) (wr.heap.size + 1 + 1) (some ⟨wr.heap.size + 1, 0, none⟩) (ownR s) := rd_one _ (s.at_, s.at_ + s.len) (wr.heap.size + 1) (by simp)
      have HWA := Lib.hid hwa; have HRO2 := Lib.hid hro2
      have hbx : ∀ (j : Nat) (cs : Array Value) (o : Obj), ((wr.alloc (.cells cs 56)).alloc o).cell? ⟨wr.heap.size, j, none⟩ = cs[j]? := fun j cs o => by
        rw [World.cell?_alloc_lt _ _ _ (by simp)]; exact cell_new wr cs 56 j
      have HBX := Lib.hid (show ((wr.alloc (.cells #[.int .i64 (sn : Int), .int .i64 s.at_, .int .i64 s.len] 56)).alloc (.cells #[.int .i64 s.at_, .int .i64 (s.at_ + s.len)] 52)).cell? ⟨wr.heap.size, 0, none⟩ = some (.int .i64 (sn : Int)) ∧ ((wr.alloc (.cells #[.int .i64 (sn : Int), .int .i64 s.at_, .int .i64 s.len] 56)).alloc (.cells #[.int .i64 s.at_, .int .i64 (s.at_ + s.len)] 52)).cell? ⟨wr.heap.size, 1, none⟩ = some (.int .i64 s.at_) ∧ ((wr.alloc (.cells #[.int .i64 (sn : Int), .int .i64 s.at_, .int .i64 s.len] 56)).alloc (.cells #[.int .i64 s.at_, .int .i64 (s.at_ + s.len)] 52)).cell? ⟨wr.heap.size, 2, none⟩ = some (.int .i64 s.len) from ⟨hbx _ _ _, hbx _ _ _, hbx _ _ _⟩)
      have hsw : ((wr.alloc (.cells #[.int .i64 (sn : Int), .int .i64 s.at_, .int .i64 s.len] 56)).alloc (.cells #[.int .i64 s.at_, .int .i64 (s.at_ + s.len)] 52)).heap.size = wr.heap.size + 1 + 1 := by simp
      clear hwa hro2 hbx
      generalize ((wr.alloc (.cells #[.int .i64 (sn : Int), .int .i64 s.at_, .int .i64 s.len] 56)).alloc (.cells #[.int .i64 s.at_, .int .i64 (s.at_ + s.len)] 52)) = W1 at *
      have hir := Lib.hid (had_ir (sn : Int) HT.out.2.1 k (by have := H.out; omega))
      have hoi := Lib.hid (own_ir (s := s) (by unfold Sc.okS; omega))
      refine (Less_any (some ⟨wr.heap.size + 1, 0, none⟩) 1 1 Ai ni ci _ (ownR s) (had sn (T.take k)) rfl (by rw [hsw]; exact HRO2.out) hoi.out HNI.out (HRO.out.fr (Fr.below HWA.out _)).rd hir.out (by omega) (by omega)).mono ?_
      rintro e w1 ⟨⟨A1, n1, c1, rfl, hown1⟩, hb1⟩
      have hL := lessR_is (ownR s) (had sn (T.take k))
      have hrs : ∀ r ∈ lessR (ownR s) (had sn (T.take k)), s.at_ ≤ r.1 ∧ r.1 < r.2 ∧ r.2 ≤ s.at_ + s.len := by
        intro r hr
        have h3 := right_mem hL.1 hr
        have h4 := (in_own s _).1 ((hL.2 r.1).1 ⟨r, hr, Int.le_refl _, h3.2⟩).2.1
        have h5 := (in_own s _).1 ((hL.2 (r.2 - 1)).1 ⟨r, hr, by omega, by omega⟩).2.1
        omega
      have hn1 : n1 ≤ 301 := by
        rw [← hown1.1]
        have := new_len HS.out
        rw [HSN.out] at this
        omega
      have HRS := Lib.hid hrs
      have HFR := Lib.hid ((Fr.below HWA.out (Value.slice A' n c).ownBlock).trans (Fr.below hb1 _))
      have HO1 := Lib.hid hown1
      have HRo1 := Lib.hid (Own.rdo hown1 (X := (Value.slice A' n c).ownBlock) (L := BB+1) (fun b hb => by have := (HX.out b hb).2; omega) (by omega))
      have HW1 := Lib.hid (HWA.out.trans (hb1.mono HWA.out.size))
      have HOut1 := Lib.hid ((HOw.out.below HWA.out (Nat.le_refl _)).below hb1 (Nat.le_refl _))
      have hbx1 := HBX.out
      have cx0 := (hb1.cell (p := ⟨wr.heap.size, 0, none⟩) (by simp only; omega)).trans hbx1.1
      have cx1 := (hb1.cell (p := ⟨wr.heap.size, 1, none⟩) (by simp only; omega)).trans hbx1.2.1
      have cx2 := (hb1.cell (p := ⟨wr.heap.size, 2, none⟩) (by simp only; omega)).trans hbx1.2.2
      have HCX := Lib.hid (show w1.cell? ⟨wr.heap.size, 0, none⟩ = some (.int .i64 (sn : Int)) ∧ w1.cell? ⟨wr.heap.size, 1, none⟩ = some (.int .i64 s.at_) ∧ w1.cell? ⟨wr.heap.size, 2, none⟩ = some (.int .i64 s.len) from ⟨cx0, cx1, cx2⟩)
      have hsz1 : wr.heap.size + 1 < w1.heap.size := by have := hb1.size; omega
      have HRo2 := Lib.hid (show RdO w1 (Value.slice A' n c).ownBlock (BB+1) (some ⟨wr.heap.size + 1, 0, none⟩) (ownR s) from by
        intro i v hv
        obtain ⟨b7, o7, e7, h7, c7, d7⟩ := HRO2.out.below hb1 (by omega) i v hv
        cases e7
        exact ⟨_, 0, rfl, hsz1, ⟨fun e => by have := (HX.out _ e).2; omega, by omega⟩, c7, d7⟩)
      clear hL hrs hown1 hbx1 cx0 cx1 cx2 HBX HRO2 hir hoi hb1 h0 h1 h2 e0 e1 HWA hsw
      obtain ⟨rs, hrse⟩ : ∃ x, lessR (ownR s) (had sn (T.take k)) = x := ⟨_, rfl⟩
      rw [hrse] at HO1 HRo1 HRS
      have HRSE := Lib.hid hrse
      clear hrse
      generalize hG : wr.heap.size = GS at *
      have hgs : BB < GS := by omega
      generalize hX0 : (Value.slice A' n c).ownBlock = X0 at *
      have HX0 := Lib.hid hX0
      clear hX0
      go_wp2_with fail
      go_loopw [3, 33] (fun v i w2 => ∃ j n2 A2 c2, j ≤ n1 ∧ n2 = n + j ∧ i = .int .i64 j ∧ v = .slice A2 n2 c2 ∧ OwnF w2 (BB+1) A2 n2 c2 (runsK T k ++ (rs.map (mkF s Q)).take j) ∧ Fr w1 X0 w2 (Value.slice A2 n2 c2).ownBlock ∧ Below (BB+1) w1 w2) (fun _ i _ => n1 - (intOf i).toNat)
      case atStart => exact ⟨0, n, A', c, Nat.zero_le _, rfl, rfl, rfl, by simpa using HOut1.out, HX0.out ▸ Fr.refl _ _, Below.refl _ _⟩
      case round =>
        obtain ⟨j, n2, A2, c2, hj, rfl, rfl, rfl, hown2, hfr, hb2⟩ := hrel
        have HO2 := Lib.hid hown2; have HF2 := Lib.hid hfr; have HB2 := Lib.hid hb2
        have hXg : X0 ≠ some GS := fun e => by have := (HX.out GS e).2; omega
        have y0 := (hfr.cell (p := ⟨GS, 0, none⟩) (by simp only; omega) hXg).trans HCX.out.1
        have y1 := (hfr.cell (p := ⟨GS, 1, none⟩) (by simp only; omega) hXg).trans HCX.out.2.1
        have y2 := (hfr.cell (p := ⟨GS, 2, none⟩) (by simp only; omega) hXg).trans HCX.out.2.2
        have hzz : GS < wr.heap.size := by have := hfr.size; omega
        by_cases hlt2 : j < n1
        · obtain ⟨r, hr⟩ := get_some rs j (by have := HO1.out.1; omega)
          obtain ⟨b2, off2, rfl, hb2', _, z0, z1⟩ := HRo1.out.fr hfr j r hr
          have hrb := HRS.out r (List.mem_of_getElem? hr)
          have HRJ := Lib.hid (take_snoc (rs.map (mkF s Q)) j (mkF s Q r) (by simp [hr]))
          clear hr hown2 hfr hb2
          have hap : IntKind.i64.wrap (Q + r.1) = Q + r.1 := IntWalk.i64_in _ (by omega)
          have haq : IntKind.i64.wrap (Q + r.1 - s.at_) = Q + r.1 - s.at_ := IntWalk.i64_in _ (by omega)
          go_wp2_with (at_builtin; refine wpList_append_block rfl (.tmp 37) (.tmp 52) 66 rfl (BB+1) 80 i0 _ 4 32 Try.underlying66 hi hz0 hz1 hz2 rfl (by decide) _ _ _ rfl ((HO2.out.alloc _).alloc _).2 ⟨wr.heap.size + 1, 0, none⟩ 1 1 (fcells [⟨(sn : Int), r.1, r.2, Q + r.1 - s.at_⟩]) rfl rfl (newf_one _ ⟨(sn : Int), r.1, r.2, Q + r.1 - s.at_⟩ _ (by simp)) (fcells_one_cell _) (by unfold maxLen; omega) (by omega) (by simp; omega) ?_)
          intro v' w3 hown' hgrow hbl
          obtain ⟨⟨A'', c'', hv, hown3⟩, hb3, hst, hz3, hcl⟩ := appF_step HO2.out HB2.out (by omega) (((Below.refl _ _).alloc (Nat.le_refl _) _).alloc (by simp) _) (m := 1) (K := [⟨(sn : Int), r.1, r.2, Q + r.1 - s.at_⟩]) rfl hown' hgrow
          have hfg := Fr.grown (W0 := (wr.alloc (.cells #[.int .i64 r.1, .int .i64 r.2] 52)).alloc (.cells #[.int .i64 (sn : Int), .int .i64 r.1, .int .i64 r.2, .int .i64 (Q + r.1 - s.at_)] 80)) (((Below.refl wr.heap.size wr).alloc (Nat.le_refl _) _).alloc (by simp) _) hgrow (by simpa using hbl)
          rw [hv] at hfg
          rw [hv]
          have HO3 := Lib.hid hown3; have HF3 := Lib.hid (HF2.out.trans hfg); have HB3 := Lib.hid hb3
          clear hgrow hown' hv hbl hown3 hfg hb3 hst hz3 hcl
          go_wp2_with fail
          go_roundw
          case rel =>
            refine ⟨j+1, n + j + 1, A'', c'', by omega, by omega, by go_num, rfl, ?_, HF3.out, HB3.out⟩
            rw [HRJ.out, ← List.append_assoc]
            have e : mkF s Q r = ⟨(sn : Int), r.1, r.2, Q + r.1 - s.at_⟩ := by unfold mkF; rw [HSN.out]
            simpa [e] using HO3.out
          case measure => simp [intOf]; omega
        · obtain rfl : j = n1 := by omega
          clear hown2 hfr hb2 hlt2
          have hXB : X0 ≠ some BB := fun e => by have := (HX.out BB e).1; omega
          have hh := (HHad.out.fr HFR.out (by omega) hXB).fr HF2.out (by omega) hXB
          have HH2 := Lib.hid hh
          obtain ⟨Ai2, ni2, ci2, e0, e1, hro, hni, hno⟩ := hh sn hsn2
          have HRO3 := Lib.hid hro; have HNI3 := Lib.hid hni; have HNO3 := Lib.hid hno
          clear hh hro hni hno
          have hjl : (rs.map (mkF s Q)).take j = rs.map (mkF s Q) := by rw [List.take_of_length_le]; rw [List.length_map, HO1.out.1]; exact Nat.le_refl _
          rw [hjl] at HO2
          have HJE := Lib.hid (show runsK T k ++ rs.map (mkF s Q) = runsK T (k+1) by rw [runsK_succ HS.out, ← HRSE.out, HSN.out, HQ.out])
          have hown_ir := Lib.hid (own_ir (s := s) (by unfold Sc.okS; omega))
          have hhad_ir := Lib.hid (had_ir (sn : Int) HT.out.2.1 k (by have := H.out; omega))
          have hg0 : BB < wr.heap.size := by omega
          go_wp2_with fail
          have HRd := Lib.hid (HRO3.out.rd)
          have HRe := Lib.hid (HRo2.out.fr HF2.out).rd
          have hz9 : GS < wr.heap.size ∧ BB < wr.heap.size := ⟨hzz, hg0⟩
          have hni3 : ni2 ≤ 300 := by rw [← HNI3.out]; exact Nat.le_trans (had_len _ T k (by have := H.out; omega)) (by omega)
          have CE := Either_any Ai2 ni2 ci2 (some ⟨GS + 1, 0, none⟩) 1 1 wr.drew (had sn (T.take k)) (ownR s) HNI3.out HRd.out hhad_ir.out HNO3.out rfl HRe.out hown_ir.out (fun h => by cases h) (by omega) (by omega)
          have HCE := Lib.hid CE
          clear CE
          go_region_law (first | (go_simp; go_at_call 28; refine HCE.out.mono ?_; rintro e w5 ⟨⟨A5, n5, c5, rfl, hown5⟩, hb5⟩; have q0 := (hb5.cell (p := ⟨GS, 0, none⟩) hz9.1).trans y0; have q2 := (hb5.cell (p := ⟨GS, 2, none⟩) hz9.1).trans y2; have q5 := (hb5.cell (p := ⟨BB, sn, none⟩) hz9.2).trans e0; have q6 := (hb5.frozen (p := ⟨BB, sn, none⟩) hz9.2).trans e1; have q7 := Nat.lt_of_lt_of_le hz9.1 hb5.size; have q8 := Nat.lt_of_lt_of_le hz9.2 hb5.size))
          all_goals
            have hb6 : Below wr.heap.size wr w5 := ⟨hb5.os, hb5.tape, hb5.output, hb5.size, hb5.block⟩
            have HQ2 := Lib.hid q2; have HQ5 := Lib.hid q5; have HQ6 := Lib.hid q6
            have HH5 := Lib.hid (HH2.out.fr (Fr.below hb6 _) hz9.2 (fun e => by have := HO2.out.2.lt BB e; omega))
            have HO5 := Lib.hid ((HO2.out.below hb6 (Nat.le_refl _)).setBeside ⟨BB, sn, none⟩ (.slice A5 n5 c5) (.inl (by show BB < BB + 1; omega)))
            have HX5 := Lib.hid (show ∀ b, (Value.slice A2 (n + j) c2).ownBlock = some b → b < wr.drew.heap.size from fun b hb => (HO2.out.2.lt b hb).2)
            have HRo5 := Lib.hid (Own.rdo hown5 (L := BB + 1) HX5.out (by show BB + 1 ≤ wr.heap.size; omega))
            have HL5 := Lib.hid hown5.1
            have HN5 := Lib.hid hown5.none
            have HBe := Lib.hid (show Below BB w (w5.setCell ⟨BB, sn, none⟩ (.slice A5 n5 c5)) from (((HBel.out.trans (HW1.out.mono (by omega))).trans (HB2.out.mono (by omega))).trans (hb6.mono (by omega))).setCell (Nat.le_refl BB) _)
            have z2 : (w5.setCell ⟨BB, sn, none⟩ (.slice A5 n5 c5)).cell? ⟨GS, 2, none⟩ = some (.int .i64 s.len) := by
              rw [World.cell?_setCell_far _ _ _ _ (by show BB ≠ GS; omega)]; exact q2
            have hzB : BB < (w5.setCell ⟨BB, sn, none⟩ (.slice A5 n5 c5)).heap.size := by simpa using q8
            have HH6 : Hid (HadAt (w5.setCell ⟨BB, sn, none⟩ (.slice A5 n5 c5)) BB (Value.slice A2 (n + j) c2).ownBlock T (k+1)) := Lib.hid (by
              intro i hi
              by_cases hc : i = sn
              · subst hc
                refine ⟨A5, n5, c5, World.cell?_setCell_same _ _ _ HQ5.out, by rw [World.frozen?_setCell]; exact HQ6.out, ?_, ?_, HN5.out⟩
                · rw [had_take HS.out, if_pos HSN.out]
                  exact HRo5.out.set _ _ (by show BB < BB + 1; omega)
                · rw [had_take HS.out, if_pos HSN.out]; exact HL5.out
              · obtain ⟨Ai, ni, ci, a0, a1, a2, a3, a4⟩ := HH5.out i hi
                have hne : ¬ s.src = (i : Int) := fun e => hc (by have := HSN.out; omega)
                refine ⟨Ai, ni, ci, ?_, by rw [World.frozen?_setCell]; exact a1, ?_, ?_, a4⟩
                · rw [World.cell?_setCell_other _ _ _ _ (by simp <;> omega)]; exact a0
                · rw [had_take HS.out, if_neg hne]; exact a2.set _ _ (by show BB < BB + 1; omega)
                · rw [had_take HS.out, if_neg hne]; exact a3)
            clear q0 q2 q5 q6 q7 q8 hown5 hb5 hb6 y0 y1 y2 e0 e1
            generalize w5.setCell ⟨BB, sn, none⟩ (.slice A5 n5 c5) = w6 at *
            go_wp2_with fail
            go_roundw
            case rel =>
              refine ⟨k+1, n + j, A2, c2, by omega, ?_, by go_num, by rw [HTQ.out], rfl, by rw [← HJE.out]; exact HO5.out, HH6.out, hzB, HBe.out⟩
              have h1 := HO5.out.1
              rw [HJE.out] at h1
              rw [← h1]
              exact runsK_len T (k+1) (by have := H.out; omega)
            case measure => simp [intOf]; omega
    · obtain rfl : k = len := by omega
      have HO := Lib.hid hown
      have hkk := H.out
      clear hlt hb hhad hown
      go_wp2_with fail
      go_ret
      obtain rfl := HB.out
      rw [hkk]
      exact ⟨⟨_, _, _, rfl, HO.out.mono (by omega)⟩, HBel.out⟩
end Go.Proofs.Ytdpjblepcpjomaa.Rb
