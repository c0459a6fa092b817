/-
  What rebase's mover finds of a scrap's first bytes.
-/
import Derived.Test.YtdpjblepcpjomaaWMay
import Derived.Test.YtdpjblepcpjomaaFRows
namespace Go.Proofs.Ytdpjblepcpjomaa.Rb
open Go.RowKit
def scrapV (s : S) : Value := .agg #[.int .i64 s.src, .int .i64 s.at_, .int .i64 s.len]
/-- The boxes of a call of one. -/
structure MB (w : World) (B : Nat) (Af : Option Addr) (nf cf : Nat) (Ar : Option Addr) (nr cr : Nat) (a : Int) (s : S) : Prop where
  m0 : w.cell? ⟨B, 0, none⟩ = some (.slice Af nf cf)
  m1 : w.cell? ⟨B, 1, none⟩ = some (.slice Ar nr cr)
  m2 : w.cell? ⟨B, 2, none⟩ = some (.int .i64 a)
  s0 : w.cell? ⟨B + 1, 0, none⟩ = some (.int .i64 s.src)
  s1 : w.cell? ⟨B + 1, 1, none⟩ = some (.int .i64 s.at_)
  s2 : w.cell? ⟨B + 1, 2, none⟩ = some (.int .i64 s.len)
  r0 : w.cell? ⟨B + 1 + 1, 0, none⟩ = some (.int .i64 0)
  r1 : w.cell? ⟨B + 1 + 1, 1, none⟩ = some (.int .i64 0)
  r2 : w.cell? ⟨B + 1 + 1, 2, none⟩ = some (.int .i64 0)
  f0 : w.frozen? ⟨B + 1 + 1, 0, none⟩ = false
  f1 : w.frozen? ⟨B + 1 + 1, 1, none⟩ = false
  f2 : w.frozen? ⟨B + 1 + 1, 2, none⟩ = false
  sz : B + 3 ≤ w.heap.size
theorem MB.below {w w' : World} {B : Nat} {Af : Option Addr} {nf cf : Nat} {Ar : Option Addr} {nr cr : Nat} {a : Int} {s : S} (h : MB w B Af nf cf Ar nr cr a s) (hb : Below (B + 3) w w') : MB w' B Af nf cf Ar nr cr a s := by
  obtain ⟨a0, a1, a2, a3, a4, a5, a6, a7, a8, a9, b0, b1, b2⟩ := h
  refine ⟨(hb.cell ?_).trans a0, (hb.cell ?_).trans a1, (hb.cell ?_).trans a2, (hb.cell ?_).trans a3, (hb.cell ?_).trans a4, (hb.cell ?_).trans a5, (hb.cell ?_).trans a6, (hb.cell ?_).trans a7, (hb.cell ?_).trans a8, (hb.frozen ?_).trans a9, (hb.frozen ?_).trans b0, (hb.frozen ?_).trans b1, Nat.le_trans b2 hb.size⟩
  all_goals (simp only; omega)
theorem MB.mk0 (w : World) (Af : Option Addr) (nf cf : Nat) (Ar : Option Addr) (nr cr : Nat) (a : Int) (s : S) :
    MB (((w.alloc (.cells #[.slice Af nf cf, .slice Ar nr cr, .int .i64 a] 69)).alloc (.cells #[.int .i64 s.src, .int .i64 s.at_, .int .i64 s.len] 56)).alloc (.cells #[.int .i64 0, .int .i64 0, .int .i64 0] 56)) w.heap.size Af nf cf Ar nr cr a s := by
  have l1 : ∀ (j : Nat) (o1 o2 o3 : Obj), (((w.alloc o1).alloc o2).alloc o3).cell? ⟨w.heap.size, j, none⟩ = (w.alloc o1).cell? ⟨w.heap.size, j, none⟩ := fun j o1 o2 o3 => by
    rw [World.cell?_alloc_lt _ _ _ (by simp; omega), World.cell?_alloc_lt _ _ _ (by simp)]
  have l2 : ∀ (j : Nat) (cs : Array Value) (t : TypeId) (o1 o3 : Obj), (((w.alloc o1).alloc (.cells cs t)).alloc o3).cell? ⟨w.heap.size + 1, j, none⟩ = cs[j]? := fun j cs t o1 o3 => by
    rw [World.cell?_alloc_lt _ _ _ (by simp), show w.heap.size + 1 = (w.alloc o1).heap.size by simp]
    exact cell_new (w.alloc o1) cs t j
  have l3 : ∀ (j : Nat) (cs : Array Value) (t : TypeId) (o1 o2 : Obj), (((w.alloc o1).alloc o2).alloc (.cells cs t)).cell? ⟨w.heap.size + 1 + 1, j, none⟩ = cs[j]? := fun j cs t o1 o2 => by
    have := cell_new ((w.alloc o1).alloc o2) cs t j
    simpa using this
  have l4 : ∀ (j : Nat) (cs : Array Value) (t : TypeId) (o1 o2 : Obj), (((w.alloc o1).alloc o2).alloc (.cells cs t)).frozen? ⟨w.heap.size + 1 + 1, j, none⟩ = false := fun j cs t o1 o2 => by
    have h := heap_alloc_new ((w.alloc o1).alloc o2) (.cells cs t)
    have e : ((w.alloc o1).alloc o2).heap.size = w.heap.size + 1 + 1 := by simp
    rw [e] at h
    unfold World.frozen?
    rw [h]; simp
  refine ⟨?_, ?_, ?_, ?_, ?_, ?_, ?_, ?_, ?_, l4 _ _ _ _ _, l4 _ _ _ _ _, l4 _ _ _ _ _, by simp⟩
  · rw [l1, cell_new]; rfl
  · rw [l1, cell_new]; rfl
  · rw [l1, cell_new]; rfl
  · rw [l2]; rfl
  · rw [l2]; rfl
  · rw [l2]; rfl
  · rw [l3]; rfl
  · rw [l3]; rfl
  · rw [l3]; rfl
theorem seen_snoc {F : List Fd} {k : Nat} {f : Fd} {s : S} {e e' : Int} (hf : F[k]? = some f) (h : ∀ f ∈ F.take k, f.src = s.src → ¬ (f.fr ≤ s.at_ ∧ s.at_ < f.to_) ∧ (s.at_ < f.fr → e ≤ f.fr)) (he : e' ≤ e)
    (h' : f.src = s.src → ¬ (f.fr ≤ s.at_ ∧ s.at_ < f.to_) ∧ (s.at_ < f.fr → e' ≤ f.fr)) : ∀ f ∈ F.take (k+1), f.src = s.src → ¬ (f.fr ≤ s.at_ ∧ s.at_ < f.to_) ∧ (s.at_ < f.fr → e' ≤ f.fr) := by
  rw [Sc.take_snoc F k f hf]
  intro g hg hs
  rcases List.mem_append.1 hg with hg | hg
  · obtain ⟨h1, h2⟩ := h g hg hs
    exact ⟨h1, fun h3 => Int.le_trans he (h2 h3)⟩
  · simp at hg; subst hg; exact h' hs
theorem one_fin {w W0 wr : World} {B : Nat} (h0 : Below B w W0) (hb : Below (B + 3) W0 wr) (hs : B ≤ wr.heap.size) (v0 v1 v2 : Value) :
    Below B w (((wr.setCell ⟨B + 1 + 1, 0, none⟩ v0).setCell ⟨B + 1 + 1, 1, none⟩ v1).setCell ⟨B + 1 + 1, 2, none⟩ v2) ∧
    ∀ o, Below B w ((((wr.setCell ⟨B + 1 + 1, 0, none⟩ v0).setCell ⟨B + 1 + 1, 1, none⟩ v1).setCell ⟨B + 1 + 1, 2, none⟩ v2).alloc o) := by
  have h1 := ((((h0.trans (hb.mono (by omega))).setCell (p := ⟨B + 1 + 1, 0, none⟩) (by simp only; omega) v0).setCell (p := ⟨B + 1 + 1, 1, none⟩) (by simp only; omega) v1).setCell (p := ⟨B + 1 + 1, 2, none⟩) (by simp only; omega) v2)
  exact ⟨h1, fun o => h1.alloc (by simp; exact hs) o⟩
theorem one_cells {w : World} {B : Nat} {x0 x1 x2 : Value} (h0 : w.cell? ⟨B, 0, none⟩ = some x0) (h1 : w.cell? ⟨B, 1, none⟩ = some x1) (h2 : w.cell? ⟨B, 2, none⟩ = some x2) (hB : B < w.heap.size) (v0 v1 v2 : Value) (o : Obj) :
    ((((w.setCell ⟨B, 0, none⟩ v0).setCell ⟨B, 1, none⟩ v1).setCell ⟨B, 2, none⟩ v2).cell? ⟨B, 0, none⟩ = some v0 ∧ (((w.setCell ⟨B, 0, none⟩ v0).setCell ⟨B, 1, none⟩ v1).setCell ⟨B, 2, none⟩ v2).cell? ⟨B, 1, none⟩ = some v1 ∧ (((w.setCell ⟨B, 0, none⟩ v0).setCell ⟨B, 1, none⟩ v1).setCell ⟨B, 2, none⟩ v2).cell? ⟨B, 2, none⟩ = some v2) ∧
    (((((w.setCell ⟨B, 0, none⟩ v0).setCell ⟨B, 1, none⟩ v1).setCell ⟨B, 2, none⟩ v2).alloc o).cell? ⟨B, 0, none⟩ = some v0 ∧ ((((w.setCell ⟨B, 0, none⟩ v0).setCell ⟨B, 1, none⟩ v1).setCell ⟨B, 2, none⟩ v2).alloc o).cell? ⟨B, 1, none⟩ = some v1 ∧ ((((w.setCell ⟨B, 0, none⟩ v0).setCell ⟨B, 1, none⟩ v1).setCell ⟨B, 2, none⟩ v2).alloc o).cell? ⟨B, 2, none⟩ = some v2) := by
  have a0 : (w.setCell ⟨B, 0, none⟩ v0).cell? ⟨B, 0, none⟩ = some v0 := World.cell?_setCell_same _ _ _ h0
  have a1 : (w.setCell ⟨B, 0, none⟩ v0).cell? ⟨B, 1, none⟩ = some x1 := (World.cell?_setCell_other _ _ _ _ (by simp)).trans h1
  have a2 : (w.setCell ⟨B, 0, none⟩ v0).cell? ⟨B, 2, none⟩ = some x2 := (World.cell?_setCell_other _ _ _ _ (by simp)).trans h2
  have b0 : ((w.setCell ⟨B, 0, none⟩ v0).setCell ⟨B, 1, none⟩ v1).cell? ⟨B, 0, none⟩ = some v0 := (World.cell?_setCell_other _ _ _ _ (by simp)).trans a0
  have b1 : ((w.setCell ⟨B, 0, none⟩ v0).setCell ⟨B, 1, none⟩ v1).cell? ⟨B, 1, none⟩ = some v1 := World.cell?_setCell_same _ _ _ a1
  have b2 : ((w.setCell ⟨B, 0, none⟩ v0).setCell ⟨B, 1, none⟩ v1).cell? ⟨B, 2, none⟩ = some x2 := (World.cell?_setCell_other _ _ _ _ (by simp)).trans a2
  have c0 : (((w.setCell ⟨B, 0, none⟩ v0).setCell ⟨B, 1, none⟩ v1).setCell ⟨B, 2, none⟩ v2).cell? ⟨B, 0, none⟩ = some v0 := (World.cell?_setCell_other _ _ _ _ (by simp)).trans b0
  have c1 : (((w.setCell ⟨B, 0, none⟩ v0).setCell ⟨B, 1, none⟩ v1).setCell ⟨B, 2, none⟩ v2).cell? ⟨B, 1, none⟩ = some v1 := (World.cell?_setCell_other _ _ _ _ (by simp)).trans b1
  have c2 : (((w.setCell ⟨B, 0, none⟩ v0).setCell ⟨B, 1, none⟩ v1).setCell ⟨B, 2, none⟩ v2).cell? ⟨B, 2, none⟩ = some v2 := World.cell?_setCell_same _ _ _ b2
  have hz : ∀ j, (⟨B, j, none⟩ : Addr).block < (((w.setCell ⟨B, 0, none⟩ v0).setCell ⟨B, 1, none⟩ v1).setCell ⟨B, 2, none⟩ v2).heap.size := by intro j; simpa using hB
  exact ⟨⟨c0, c1, c2⟩, (World.cell?_alloc_lt _ _ _ (hz 0)).trans c0, (World.cell?_alloc_lt _ _ _ (hz 1)).trans c1, (World.cell?_alloc_lt _ _ _ (hz 2)).trans c2⟩
set_option maxHeartbeats 1600000 in
set_option maxRecDepth 100000 in
theorem one_any (Af : Option Addr) (nf cf : Nat) (Ar : Option Addr) (nr cr : Nat) (a : Int) (s : S) (w : World) (F : List Fd) (RS : List R) (hlf : F.length = nf) (hrf : RdF w w.heap.size Af F) (hmf : nf ≤ 1000000)
    (hbf : ∀ f ∈ F, 0 ≤ f.src ∧ f.src ≤ 2 ∧ 0 ≤ f.fr ∧ f.fr < f.to_ ∧ f.to_ ≤ 1099511627776 ∧ 0 ≤ f.at_ ∧ f.at_ + f.to_ - f.fr ≤ 1099511627776)
    (hlr : RS.length = nr) (hrr : Rd w w.heap.size Ar RS) (hmr : nr ≤ 1000000) (hR : Right RS) (hN : Nn RS) (a0 : 0 ≤ a) (a1 : a + tot RS ≤ 1099511627776) (hs : Sc.okS s) :
    Calls Try.prog 37 #[.agg #[.slice Af nf cf, .slice Ar nr cr, .int .i64 a], .agg #[.int .i64 s.src, .int .i64 s.at_, .int .i64 s.len]] w fun e w' =>
      ((∃ x, OneR F RS a s x ∧ e = .returned (.tuple #[.agg #[.int .i64 x.src, .int .i64 x.at_, .int .i64 x.len], .bool true])) ∨ (OneN F RS s ∧ e = .returned (.tuple #[.agg #[.int .i64 0, .int .i64 0, .int .i64 0], .bool false]))) ∧ Below w.heap.size w w' := by
  unfold Sc.okS at hs
  have HF := Lib.hid hlf; have RF := Lib.hid hrf; have BF := Lib.hid hbf; have HR := Lib.hid hlr; have RR := Lib.hid hrr; have SR := Lib.hid hR; have NR := Lib.hid hN
  clear hlf hrf hbf hlr hrr hR hN
  go_enter Try.func37, Try.ntmps37
  go_wp2_with fail
  have HMB := Lib.hid (MB.mk0 w Af nf cf Ar nr cr a s)
  have HB0 := Lib.hid ((((Below.refl w.heap.size w).alloc (Nat.le_refl _) (.cells #[.slice Af nf cf, .slice Ar nr cr, .int .i64 a] 69)).alloc (by simp) (.cells #[.int .i64 s.src, .int .i64 s.at_, .int .i64 s.len] 56)).alloc (by simp; omega) (.cells #[.int .i64 0, .int .i64 0, .int .i64 0] 56))
  generalize (((w.alloc (.cells #[.slice Af nf cf, .slice Ar nr cr, .int .i64 a] 69)).alloc (.cells #[.int .i64 s.src, .int .i64 s.at_, .int .i64 s.len] 56)).alloc (.cells #[.int .i64 0, .int .i64 0, .int .i64 0] 56)) = W0 at *
  generalize hBB : w.heap.size = BB at *
  have HB := Lib.hid hBB; clear hBB
  go_loopw [6, 20] (fun v i wr => ∃ (k : Nat) (e : Int), k ≤ nf ∧ i = .int .i64 k ∧ v = .int .i64 e ∧ s.at_ < e ∧ e ≤ s.at_ + s.len ∧ Hid (∀ f ∈ F.take k, f.src = s.src → ¬ (f.fr ≤ s.at_ ∧ s.at_ < f.to_) ∧ (s.at_ < f.fr → e ≤ f.fr)) ∧ Below (BB + 3) W0 wr) (fun _ i _ => nf - (intOf i).toNat)
  case atStart => exact ⟨0, s.at_ + s.len, Nat.zero_le _, rfl, rfl, by omega, by omega, Lib.hid (fun f hf => by simp at hf), Below.refl _ _⟩
  case round =>
    obtain ⟨k, e, hk, rfl, rfl, he0, he1, HS, hb⟩ := hrel
    have hmb := HMB.out.below hb
    obtain ⟨m0, m1, m2, s0, s1, s2, r0, r1, r2, f0, f1, f2, hsz⟩ := hmb
    have HBel := Lib.hid hb
    have g0 : BB < wr.heap.size := by omega
    have g1 : BB + 1 < wr.heap.size := by omega
    have g2 : BB + 1 + 1 < wr.heap.size := by omega
    by_cases hlt : k < nf
    · obtain ⟨f, hf⟩ := Sc.get_some F k (by have := HF.out; omega)
      obtain ⟨b, off, rfl, hb', c0, c1, c2, c3⟩ := (RF.out.below HB0.out (Nat.le_refl _)).below hb (by omega) k f hf
      have hbd := BF.out f (List.mem_of_getElem? hf)
      have HFk := Lib.hid hf
      clear hf hb
      by_cases q : f.src = s.src
      · rw [q] at c0
        by_cases q1 : f.fr ≤ s.at_
        · by_cases q2 : s.at_ < f.to_
          · go_wp2_with fail
            obtain ⟨e0, e1, e2⟩ := (one_cells r0 r1 r2 g2 (.int .i64 0) (.int .i64 (f.at_ + s.at_ - f.fr)) (.int .i64 (min e f.to_ - s.at_)) (.cells #[.int .i64 s.src, .int .i64 f.fr, .int .i64 f.to_, .int .i64 f.at_] 80)).2
            refine bodyPost_ret (v := .tuple #[.agg #[.int .i64 0, .int .i64 (f.at_ + s.at_ - f.fr), .int .i64 (min e f.to_ - s.at_)], .bool true]) (by simp [results, Try.results37, go_sem, e0, e1, e2]) rfl ?_
            obtain rfl := HB.out
            exact ⟨.inl ⟨⟨0, f.at_ + s.at_ - f.fr, min e f.to_ - s.at_⟩, ⟨by simp only; omega, by simp only; omega, .inl ⟨f, List.mem_of_getElem? HFk.out, q, q1, by simp only; omega, rfl, rfl⟩⟩, rfl⟩, (one_fin HB0.out HBel.out (by omega) _ _ _).2 _⟩
          · go_wp2_with fail
            go_roundw
            case rel => exact ⟨k+1, e, by omega, by go_num, rfl, he0, he1, Lib.hid (seen_snoc HFk.out HS.out (Int.le_refl _) (fun _ => ⟨fun h => q2 h.2, fun h => absurd q1 (by omega)⟩)), HBel.out.alloc (by omega) _⟩
            case measure => simp [intOf]; omega
        · go_wp2_with fail
          go_roundw
          case rel => exact ⟨k+1, min e f.fr, by omega, by go_num, rfl, by omega, by omega, Lib.hid (seen_snoc HFk.out HS.out (by omega) (fun _ => ⟨fun h => q1 h.1, fun h => by omega⟩)), HBel.out.alloc (by omega) _⟩
          case measure => simp [intOf]; omega
      · have q' : (f.src == s.src) = false := by simpa using q
        go_wp2_with fail
        go_roundw
        case rel => exact ⟨k+1, e, by omega, by go_num, rfl, he0, he1, Lib.hid (seen_snoc HFk.out HS.out (Int.le_refl _) (fun h => absurd h q)), HBel.out.alloc (by omega) _⟩
        case measure => simp [intOf]; omega
    · obtain rfl : k = nf := by omega
      have e2 : F.take k = F := by rw [List.take_of_length_le (Nat.le_of_eq HF.out)]
      rw [e2] at HS
      clear hlt e2 hb
      by_cases q : s.src = 1
      · rw [q] at s0
        go_wp2_with fail
        obtain ⟨e0, e1, e2⟩ := (one_cells r0 r1 r2 g2 (.int .i64 1) (.int .i64 s.at_) (.int .i64 (e - s.at_)) (.cells #[] 80)).1
        refine bodyPost_ret (v := .tuple #[.agg #[.int .i64 1, .int .i64 s.at_, .int .i64 (e - s.at_)], .bool true]) (by simp [results, Try.results37, go_sem, e0, e1, e2]) rfl ?_
        obtain rfl := HB.out
        exact ⟨.inl ⟨⟨1, s.at_, e - s.at_⟩, ⟨by simp only; omega, by simp only; omega, .inr ⟨fun f hf h => ⟨(HS.out f hf h).1, fun h' => by have := (HS.out f hf h).2 h'; simp only; omega⟩, .inl ⟨q, rfl, rfl⟩⟩⟩, rfl⟩, (one_fin HB0.out HBel.out (by omega) _ _ _).1⟩
      · have q' : (s.src == 1) = false := by simpa using q
        have HQ := Lib.hid q
        clear q
        go_wp2_with fail
        go_loopw [9, 80] (fun v i wx => ∃ j : Nat, j ≤ nr ∧ i = .int .i64 j ∧ v = .int .i64 (tot (RS.take j)) ∧ Hid (∀ r ∈ RS.take j, ¬ (r.1 ≤ s.at_ ∧ s.at_ < r.2)) ∧ Below (BB + 3) W0 wx) (fun _ i _ => nr - (intOf i).toNat)
        case atStart => exact ⟨0, Nat.zero_le _, rfl, rfl, Lib.hid (fun r hr => by simp at hr), HBel.out⟩
        case round =>
          clear s0 s1 s2 r0 r1 r2 f0 f1 f2 g0 g1 g2 m0 m1 m2 hsz
          obtain ⟨j, hj, rfl, rfl, HN, hbx⟩ := hrel
          have hmb := HMB.out.below hbx
          obtain ⟨m0, m1, m2, s0, s1, s2, r0, r1, r2, f0, f1, f2, hsz⟩ := hmb
          have HBx := Lib.hid hbx
          have g0 : BB < wr.heap.size := by omega
          have g1 : BB + 1 < wr.heap.size := by omega
          have g2 : BB + 1 + 1 < wr.heap.size := by omega
          by_cases hlt : j < nr
          · obtain ⟨r, hr⟩ := get_some RS j (by have := HR.out; omega)
            obtain ⟨b, off, rfl, hb', c0, c1⟩ := (RR.out.below HB0.out (Nat.le_refl _)).below hbx (by omega) j r hr
            have hn := NR.out r (List.mem_of_getElem? hr)
            have ht := tot_take_le SR.out hr
            have hsn : tot (RS.take (j+1)) = tot (RS.take j) + (r.2 - r.1) := by rw [take_snoc RS j r hr, tot_snoc]
            have HSN := Lib.hid hsn
            have HRj := Lib.hid hr
            have HN' : ¬ (r.1 ≤ s.at_ ∧ s.at_ < r.2) → ∀ q ∈ RS.take (j+1), ¬ (q.1 ≤ s.at_ ∧ s.at_ < q.2) := fun h q hq => by
              rw [take_snoc RS j r hr] at hq
              rcases List.mem_append.1 hq with hq | hq
              · exact HN.out q hq
              · simp at hq; subst hq; exact h
            have HNN := Lib.hid HN'
            clear hr hbx hsn HN'
            obtain ⟨Tj, hTj⟩ : ∃ x, tot (RS.take j) = x := ⟨_, rfl⟩
            have HTj := Lib.hid hTj
            rw [hTj] at ht ⊢
            clear hTj
            by_cases q1 : r.1 ≤ s.at_
            · by_cases q2 : s.at_ < r.2
              · go_wp2_with fail
                obtain ⟨e0, e1, e2⟩ := (one_cells r0 r1 r2 g2 (.int .i64 1) (.int .i64 (a + Tj + s.at_ - r.1)) (.int .i64 (min e r.2 - s.at_)) (.cells #[.int .i64 r.1, .int .i64 r.2] 52)).2
                refine bodyPost_ret (v := .tuple #[.agg #[.int .i64 1, .int .i64 (a + Tj + s.at_ - r.1), .int .i64 (min e r.2 - s.at_)], .bool true]) (by simp [results, Try.results37, go_sem, e0, e1, e2]) rfl ?_
                obtain rfl := HB.out
                refine ⟨.inl ⟨⟨1, a + Tj + s.at_ - r.1, min e r.2 - s.at_⟩, ⟨by simp only; omega, by simp only; omega, .inr ⟨fun f hf h => ⟨(HS.out f hf h).1, fun h' => by have := (HS.out f hf h).2 h'; simp only; omega⟩, .inr ⟨HQ.out, j, r, HRj.out, q1, by simp only; omega, rfl, by rw [HTj.out]⟩⟩⟩, rfl⟩, (one_fin HB0.out HBx.out (by omega) _ _ _).2 _⟩
              · go_wp2_with fail
                go_roundw
                case rel => exact ⟨j+1, by omega, by go_num, by rw [HSN.out, HTj.out], Lib.hid (HNN.out fun h => q2 h.2), HBx.out.alloc (by omega) _⟩
                case measure => simp [intOf]; omega
            · go_wp2_with fail
              go_roundw
              case rel => exact ⟨j+1, by omega, by go_num, by rw [HSN.out, HTj.out], Lib.hid (HNN.out fun h => q1 h.1), HBx.out.alloc (by omega) _⟩
              case measure => simp [intOf]; omega
          · obtain rfl : j = nr := by omega
            have e3 : RS.take j = RS := by rw [List.take_of_length_le (Nat.le_of_eq HR.out)]
            rw [e3] at HN
            clear hlt hbx
            go_wp2_with fail
            obtain ⟨e0, e1, e2⟩ := (one_cells r0 r1 r2 g2 (.int .i64 0) (.int .i64 0) (.int .i64 0) (.cells #[] 52)).1
            refine bodyPost_ret (v := .tuple #[.agg #[.int .i64 0, .int .i64 0, .int .i64 0], .bool false]) (by simp [results, Try.results37, go_sem, e0, e1, e2]) rfl ?_
            obtain rfl := HB.out
            exact ⟨.inr ⟨⟨fun f hf h => (HS.out f hf h).1, HQ.out, fun ⟨r, hr, h⟩ => HN.out r hr h⟩, rfl⟩, (one_fin HB0.out HBx.out (by omega) _ _ _).1⟩
end Go.Proofs.Ytdpjblepcpjomaa.Rb
