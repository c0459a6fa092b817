/-
  MD: texts of one kind, one behind the other.
-/
import Derived.Test.YtblibmalommdkaaGreatMC
/-
  The reference's written, stashed and part.
-/
namespace Go.Proofs.YtblibmalommdkaaGreat
open Go.RowKit
/-- Is a block written by one of the first k waves? -/
def wrB (W : List (List Stp)) (k : Nat) (b : Int) : Bool := (W.take k).any fun v => v.any fun s => s.1 == b
theorem wrote_at (l : List Stp) (b : Int) : ∀ u : Int → Bool, wrote u l b = (u b || l.any fun s => s.1 == b) := by
  induction l with
  | nil => intro u; simp [wrote]
  | cons s l ih =>
    intro u
    have h := ih (upd u s.1 true)
    unfold wrote at h ⊢
    rw [List.foldl_cons, h]
    by_cases hs : s.1 = b
    · subst hs; simp [upd_same]
    · rw [upd_other _ _ (Ne.symm hs)]
      have : (s.1 == b) = false := by simpa using hs
      simp [this]
theorem wroteW_at (W : List (List Stp)) (b : Int) : ∀ u : Int → Bool, W.foldl wrote u b = (u b || W.any fun v => v.any fun s => s.1 == b) := by
  induction W with
  | nil => intro u; simp
  | cons v W ih => intro u; rw [List.foldl_cons, ih, wrote_at, List.any_cons, Bool.or_assoc]
theorem wrB_fold (W : List (List Stp)) (k : Nat) (b : Int) : (W.take k).foldl wrote (fun _ => false) b = wrB W k b := by rw [wroteW_at]; simp [wrB]
theorem wrB_step {W : List (List Stp)} {i : Nat} {v : List Stp} (hv : W[i]? = some v) (b : Int) : wrB W (i + 1) b = (wrB W i b || v.any fun s => s.1 == b) := by
  unfold wrB
  rw [Sc.take_snoc W i v hv]
  simp
theorem any_step {v : List Stp} {j : Nat} {s : Stp} (hs : v[j]? = some s) (b : Int) : ((v.take (j + 1)).any fun s => s.1 == b) = (((v.take j).any fun s => s.1 == b) || s.1 == b) := by
  rw [Sc.take_snoc v j s hs]
  simp
set_option maxRecDepth 100000 in
set_option maxHeartbeats 2000000 in
theorem written_any (p : PlV) (k : Nat) (b : Int) (w : World) (hP : PlOk w w.heap.size p) (hk : k ≤ p.waves.length) (hw : p.waves.length ≤ 1000000) :
    Calls Tryz.prog 69 #[.agg p.cells, .int .i64 k, .int .i64 b] w fun e w' => e = .returned (.bool (wrB p.pln.waves k b)) ∧ Below w.heap.size w w' := by
  have HW0 : Hid (wrB p.pln.waves 0 b = false) := Lib.hid (by simp [wrB])
  have HST : Hid (∀ (i : Nat) (v : WvV), p.waves[i]? = some v → wrB p.pln.waves (i + 1) b = (wrB p.pln.waves i b || v.wv.any fun s => s.1 == b)) := Lib.hid fun i v h => wrB_step (v := v.wv) (by simp [PlV.pln, h]) b
  have HMORE : Hid (∀ i : Nat, i ≤ k → wrB p.pln.waves i b = true → wrB p.pln.waves k b = true) := Lib.hid fun i hi h => by
    unfold wrB at *
    rw [List.any_eq_true] at *
    obtain ⟨v, hv, h2⟩ := h
    exact ⟨v, (List.take_subset_take_left _ hi) hv, h2⟩
  generalize p.pln.waves = W at *
  obtain ⟨n, SA, sc, stash, WA, wq, waves⟩ := p
  unfold PlV.cells at *
  simp only at *
  have hb1 : Below w.heap.size w (w.alloc (.cells #[.int .i64 n, .slice SA stash.length sc, .slice WA waves.length wq] 30)) := (Below.refl _ _).alloc (Nat.le_refl _) _
  have HB := Lib.hid hb1
  have HP := Lib.hid hP
  have hbx : (w.alloc (.cells #[.int .i64 n, .slice SA stash.length sc, .slice WA waves.length wq] 30)).cell? ⟨w.heap.size, 2, none⟩ = some (.slice WA waves.length wq) := cell_new w _ 30 2
  have hlt0 : w.heap.size < (w.alloc (.cells #[.int .i64 n, .slice SA stash.length sc, .slice WA waves.length wq] 30)).heap.size := by simp
  clear hb1 hP
  go_enter Tryz.func69, Tryz.ntmps69
  go_wp2_with fail
  generalize hpb : w.heap.size = pb at *
  generalize w.alloc (.cells #[.int .i64 n, .slice SA stash.length sc, .slice WA waves.length wq] 30) = W1 at *
  go_loopw [7] (fun i wr => ∃ x : Nat, x ≤ k ∧ i = .int .i64 x ∧ Hid (wrB W x b = false) ∧ wr = W1) (fun i _ => k - (intOf i).toNat)
  case atStart => exact ⟨0, Nat.zero_le _, rfl, HW0, rfl⟩
  case round =>
    obtain ⟨x, hx, rfl, HF, rfl⟩ := hrel
    by_cases hlt : x < k
    · obtain ⟨v, hv⟩ := Sc.get_some waves x (by omega)
      obtain ⟨wb, woff, rfl, hwb, w0, hwv⟩ := (HP.out.wv.below HB.out (Nat.le_refl _)) x v hv
      have HVS := Lib.hid (HST.out x v hv)
      have hxw : x < waves.length := by omega
      obtain ⟨VA, vc, steps⟩ := v
      simp only at w0
      have HWV := Lib.hid hwv
      have hsl : steps.length ≤ 9223372036854775807 := Nat.le_trans hwv.cap.1 hwv.cap.2
      clear hv hwv
      go_wp2_with fail
      go_loopw [8] (fun i wx => ∃ j : Nat, j ≤ steps.length ∧ i = .int .i64 j ∧ Hid (((WvV.wv ⟨VA, vc, steps⟩).take j).any (fun s => s.1 == b) = false) ∧ wx = wr) (fun i _ => steps.length - (intOf i).toNat)
      case atStart => exact ⟨0, Nat.zero_le _, rfl, Lib.hid (by simp), rfl⟩
      case round =>
        obtain ⟨j, hj, rfl, HJ, rfl⟩ := hrel
        by_cases hlj : j < steps.length
        · obtain ⟨s, hs⟩ := Sc.get_some steps j hlj
          obtain ⟨g, off, rfl, hbb, c0, c1, hok⟩ := HWV.out.rd j s hs
          have HS := Lib.hid (any_step (v := WvV.wv ⟨some ⟨g, off, none⟩, vc, steps⟩) (s := s.st) (by show (steps.map StV.st)[j]? = some s.st; rw [List.getElem?_map, hs]; rfl) b)
          have HIN : Hid (s.st ∈ WvV.wv ⟨some ⟨g, off, none⟩, vc, steps⟩) := Lib.hid (List.mem_map.2 ⟨s, List.mem_of_getElem? hs, rfl⟩)
          obtain ⟨blk, PA, pc, parts⟩ := s
          simp only at c0 c1
          clear hs hok
          by_cases hbk : blk = b
          · have HV : Hid (wrB W k b = true) := Lib.hid (HMORE.out (x + 1) (by omega) (by
              rw [HVS.out, HF.out, Bool.false_or, List.any_eq_true]
              exact ⟨_, HIN.out, by simp [StV.st, hbk]⟩))
            subst hbk
            go_wp2_with fail
            go_ret
            exact ⟨Sc.ret_bool HV.out.symm, (by first | exact HB.out | (rw [hpb]; exact HB.out))⟩
          · have hb2 : (blk == b) = false := by simpa using hbk
            have HN : Hid (((WvV.wv ⟨some ⟨g, off, none⟩, vc, steps⟩).take (j + 1)).any (fun s => s.1 == b) = false) := Lib.hid (by
              rw [HS.out, HJ.out, Bool.false_or]
              simpa [StV.st] using hbk)
            clear hbk
            go_wp2_with fail
            go_roundw
            case measure => simp [intOf]; omega
            case rel => exact ⟨j + 1, by omega, by go_num, HN, trivial⟩
        · obtain rfl : j = steps.length := by omega
          clear hlj
          have HN : Hid (wrB W (x + 1) b = false) := Lib.hid (by
            have h := HJ.out
            rw [List.take_of_length_le (by simp [WvV.wv])] at h
            rw [HVS.out, HF.out, Bool.false_or]
            exact h)
          go_wp2_with fail
          go_roundw
          case measure => simp [intOf]; omega
          case rel => exact ⟨x + 1, by omega, by go_num, HN, trivial⟩
    · obtain rfl : x = k := by omega
      clear hlt
      go_wp2_with fail
      go_ret
      exact ⟨Sc.ret_bool HF.out.symm, (by first | exact HB.out | (rw [hpb]; exact HB.out))⟩
theorem wrap_sub (a b : Int) (h : -9223372036854775808 ≤ a - b ∧ a - b ≤ 9223372036854775807) : IntKind.i64.wrap (IntKind.i64.wrap a - b) = a - b := by
  have e : ∀ x : Int, IntKind.i64.wrap x = (x + 9223372036854775808) % 18446744073709551616 - 9223372036854775808 := fun x => by
    first | rfl | (unfold IntKind.wrap; simp [IntKind.bits, IntKind.signed]; split <;> omega)
  rw [e, e]
  omega
theorem tot_take {l : List R} {k : Nat} {r : R} (h : l[k]? = some r) : tot (l.take (k + 1)) = tot (l.take k) + (r.2 - r.1) := by
  rw [Sc.take_snoc l k r h]
  have : ∀ (a : List R), tot (a ++ [r]) = tot a + (r.2 - r.1) := by
    intro a
    induction a with
    | nil => simp [tot]
    | cons x a ih => simp only [List.cons_append, tot, ih]; omega
  exact this _
set_option maxRecDepth 100000 in
set_option maxHeartbeats 1000000 in
theorem stashed_any (A : Option Addr) (cap : Nat) (l : List R) (size : Int) (w : World) (hr : Rd w w.heap.size A l) (hR : Right l) (hs : ∀ r ∈ l, r.2 ≤ size) (h0 : 0 ≤ size) (h1 : size ≤ 9223372036854775807) (hm : l.length ≤ 9223372036854775807) :
    Calls Tryz.prog 81 #[.slice A l.length cap] w fun e w' => e = .returned (.int .i64 (tot l)) ∧ ∃ n, w' = w.drewN n := by
  have HR := Lib.hid hr
  have HT : Hid (∀ k r, l[k]? = some r → 0 ≤ r.1 ∧ r.1 < r.2 ∧ r.2 ≤ size ∧ tot (l.take (k + 1)) = tot (l.take k) + (r.2 - r.1) ∧ 0 ≤ tot (l.take k) ∧ tot (l.take (k + 1)) ≤ size) := Lib.hid fun k r h => by
    have hin := List.mem_of_getElem? h
    have h2 := tot_take h
    have h3 := right_tot_le (right_take hR (k + 1)) size h0 (fun s hs' => hs s (List.mem_of_mem_take hs'))
    have h4 := (right_tot (right_take hR k)).1
    have h5 : -1 < r.1 ∧ r.1 < r.2 := by
      have := right_take hR (k + 1)
      rw [Sc.take_snoc l k r h] at this
      have h6 := ((right_append _ _ _).1 this).2
      have h7 := lastTo_ge (right_take hR k)
      exact ⟨by have := h6.1; omega, h6.2.1⟩
    exact ⟨by omega, h5.2, hs r hin, h2, h4, h3⟩
  clear hr hR hs
  go_enter Tryz.func81, Tryz.ntmps81
  go_wp2_with fail
  go_loopw [3, 4] (fun s i wx => ∃ k n : Nat, k ≤ l.length ∧ i = .int .i64 k ∧ s = .int .i64 (tot (l.take k)) ∧ wx = w.drewN n) (fun _ i _ => l.length - (intOf i).toNat)
  case atStart => exact ⟨0, 0, Nat.zero_le _, rfl, rfl, rfl⟩
  case round =>
    obtain ⟨k, n, hk, rfl, rfl, rfl⟩ := hrel
    by_cases hlt : k < l.length
    · obtain ⟨r, hs⟩ := Sc.get_some l k hlt
      obtain ⟨b, off, rfl, hbb, c0, c1⟩ := HR.out k r hs
      obtain ⟨t1, t2, t3, t4, t5, t6⟩ := HT.out k r hs
      have c0' : (w.drewN n).cell? ⟨b, off + k * 2, none⟩ = some (.int .i64 r.1) := c0
      have c1' : (w.drewN n).cell? ⟨b, off + k * 2 + 1, none⟩ = some (.int .i64 r.2) := c1
      have hw := wrap_sub (tot (l.take k) + r.2) r.1 (by omega)
      have he : tot (l.take k) + r.2 - r.1 = tot (l.take (k + 1)) := by omega
      rw [he] at hw
      have HW9 := Lib.hid hw
      clear t1 t2 t3 t4 t5 t6 he hs hw
      go_wp2_with fail
      go_quiet (fail)
      go_wp2_with fail
      go_roundw
      case measure => simp [intOf]; omega
      case rel => exact ⟨k + 1, n + nq, by omega, by go_num, by congr 1; exact (by have h := HW9.out; rw [IntWalk.i64_left, IntWalk.i64_left] at h; exact h), by simp⟩
    · obtain rfl : k = l.length := by omega
      clear hlt
      rw [List.take_length]
      go_wp2_with fail
      go_ret
      exact ⟨rfl, n, rfl⟩
open Classical in
/-- Can a part be read in the k-th wave? -/
noncomputable def partB (p : Pln) (k : Nat) (size tail : Int) (x : S) : Bool := decide (PartP size tail (tot p.stash) (fun b => wrB p.waves k b) x)
theorem partB_of {p : Pln} {k : Nat} {size tail : Int} {x : S} (h : PartP size tail (tot p.stash) (fun b => wrB p.waves k b) x) : partB p k size tail x = true := by unfold partB; simpa using h
theorem partB_not {p : Pln} {k : Nat} {size tail : Int} {x : S} (h : ¬ PartP size tail (tot p.stash) (fun b => wrB p.waves k b) x) : partB p k size tail x = false := by unfold partB; simpa using h
theorem partB_iff {p : Pln} {k : Nat} {size tail : Int} {x : S} : partB p k size tail x = true ↔ PartP size tail (tot p.stash) (fun b => wrB p.waves k b) x := by unfold partB; simp
def scrapV (s : S) : Value := .agg #[.int .i64 s.src, .int .i64 s.at_, .int .i64 s.len]
set_option maxRecDepth 100000 in
set_option maxHeartbeats 4000000 in
theorem part_any (p : PlV) (k : Nat) (x : S) (size tail : Int) (w : World) (hP : PlOk w w.heap.size p) (hx : Sc.okS x) (hk : k ≤ p.waves.length) (hw : p.waves.length ≤ 1000000) (hR : Right p.stash) (hst : ∀ r ∈ p.stash, r.2 ≤ size) (h0 : 0 ≤ size) (h1 : size ≤ 9223372036854775807) (t0 : 0 ≤ tail) (t1 : tail ≤ 9223372036854775807) :
    Calls Tryz.prog 73 #[.agg p.cells, .int .i64 k, scrapV x, .int .i64 size, .int .i64 tail] w fun e w' => e = .returned (.bool (partB p.pln k size tail x)) ∧ Below w.heap.size w w' := by
  have hb1 : Below w.heap.size w (w.alloc (.cells p.cells 30)) := (Below.refl _ _).alloc (Nat.le_refl _) _
  have hb2 : Below w.heap.size w ((w.alloc (.cells p.cells 30)).alloc (.cells #[.int .i64 x.src, .int .i64 x.at_, .int .i64 x.len] 80)) := hb1.alloc hb1.size _
  have HB := Lib.hid hb2
  have HP2 := Lib.hid (hP.up hb2)
  have HW : Hid (∀ W, Below w.heap.size w W → ∀ b : Int, Calls Tryz.prog 69 #[.agg p.cells, .int .i64 k, .int .i64 b] W fun e w' => e = .returned (.bool (wrB p.pln.waves k b)) ∧ Below W.heap.size W w') := Lib.hid fun W hW b => written_any p k b W ((hP.below hW (Nat.le_refl _)).more hW.size) hk hw
  have hxx := hx
  unfold Sc.okS at hxx
  have HTO := Lib.hid (And.intro (right_tot hR).1 (right_tot_le hR size h0 hst))
  have HR := Lib.hid hR
  have HST := Lib.hid hst
  have HYES : Hid (PartP size tail (tot p.pln.stash) (fun b => wrB p.pln.waves k b) x → partB p.pln k size tail x = true) := Lib.hid partB_of
  have HNO : Hid (¬ PartP size tail (tot p.pln.stash) (fun b => wrB p.pln.waves k b) x → partB p.pln k size tail x = false) := Lib.hid partB_not
  have hpl : p.pln.stash = p.stash := rfl
  rw [hpl] at HYES HNO
  generalize partB p.pln k size tail x = pv at *
  generalize p.pln.waves = W at *
  clear hpl hP hR hst hb1 hb2
  obtain ⟨n, SA, sc, stash, WA, wq, waves⟩ := p
  obtain ⟨src, at_, len⟩ := x
  unfold PlV.cells scrapV at *
  simp only at *
  have v0 : ((w.alloc (.cells #[.int .i64 n, .slice SA stash.length sc, .slice WA waves.length wq] 30)).alloc (.cells #[.int .i64 src, .int .i64 at_, .int .i64 len] 80)).cell? ⟨w.heap.size + 1, 0, none⟩ = some (.int .i64 src) := by
    simp
  have q1 : IntKind.i64.wrap (size - at_) = size - at_ := IntWalk.i64_in _ (by omega)
  have q2 : IntKind.i64.wrap (tail - at_) = tail - at_ := IntWalk.i64_in _ (by omega)
  have q4 : IntKind.i64.wrap (at_ + len) = at_ + len := IntWalk.i64_in _ (by omega)
  have q5 : IntKind.i64.wrap (at_ + len - 1) = at_ + len - 1 := IntWalk.i64_in _ (by omega)
  have q6 : at_.tdiv 64 = at_ / 64 := tdiv64 _ (by omega)
  have q7 : (at_ + len - 1).tdiv 64 = (at_ + len - 1) / 64 := tdiv64 _ (by omega)
  rcases (by omega : src = 1 ∨ src = 2 ∨ src = 0) with rfl | rfl | rfl
  · by_cases c1 : at_ ≤ tail
    · by_cases c2 : len ≤ tail - at_
      · have HV : Hid (pv = true) := Lib.hid (HYES.out ⟨by simpa using c1, by simpa using c2, fun e => by simp at e⟩)
        go_enter Tryz.func73, Tryz.ntmps73
        go_wp2_with fail
        go_ret
        exact ⟨Sc.ret_bool HV.out.symm, HB.out⟩
      · have HV : Hid (pv = false) := Lib.hid (HNO.out fun h => c2 (by simpa using h.2.1))
        have c3 : tail - at_ < len := by omega
        go_enter Tryz.func73, Tryz.ntmps73
        go_wp2_with fail
        go_ret
        exact ⟨Sc.ret_bool HV.out.symm, HB.out⟩
    · have HV : Hid (pv = false) := Lib.hid (HNO.out fun h => c1 (by simpa using h.1))
      have c3 : tail < at_ := by omega
      go_enter Tryz.func73, Tryz.ntmps73
      go_wp2_with fail
      go_ret
      exact ⟨Sc.ret_bool HV.out.symm, HB.out⟩
  · have HS := Lib.hid (stashed_any SA sc stash size _ HP2.out.st HR.out HST.out h0 h1 (Nat.le_trans HP2.out.scap.1 HP2.out.scap.2))
    have hto := HTO.out
    generalize tot stash = st at *
    have q8 : IntKind.i64.wrap (st - at_) = st - at_ := IntWalk.i64_in _ (by omega)
    by_cases c1 : at_ ≤ st
    · by_cases c2 : len ≤ st - at_
      · have HV : Hid (pv = true) := Lib.hid (HYES.out ⟨by simpa using c1, by simpa using c2, fun e => by simp at e⟩)
        go_enter Tryz.func73, Tryz.ntmps73
        go_wp2_with fail
        refine HS.out.mono ?_
        rintro e w3 ⟨rfl, nn, rfl⟩
        go_wp2_with fail
        go_ret
        exact ⟨Sc.ret_bool HV.out.symm, belowDrewN HB.out nn⟩
      · have HV : Hid (pv = false) := Lib.hid (HNO.out fun h => c2 (by simpa using h.2.1))
        have c3 : st - at_ < len := by omega
        go_enter Tryz.func73, Tryz.ntmps73
        go_wp2_with fail
        refine HS.out.mono ?_
        rintro e w3 ⟨rfl, nn, rfl⟩
        go_wp2_with fail
        go_ret
        exact ⟨Sc.ret_bool HV.out.symm, belowDrewN HB.out nn⟩
    · have HV : Hid (pv = false) := Lib.hid (HNO.out fun h => c1 (by simpa using h.1))
      have c3 : st < at_ := by omega
      go_enter Tryz.func73, Tryz.ntmps73
      go_wp2_with fail
      refine HS.out.mono ?_
      rintro e w3 ⟨rfl, nn, rfl⟩
      go_wp2_with fail
      go_ret
      exact ⟨Sc.ret_bool HV.out.symm, belowDrewN HB.out nn⟩
  · by_cases c1 : at_ ≤ size
    · by_cases c2 : len ≤ size - at_
      · have HC := Lib.hid (And.intro c1 c2)
        have HXX := Lib.hid hxx
        have hb64 : at_ / 64 * 64 ≤ at_ ∧ 0 ≤ at_ / 64 ∧ at_ / 64 ≤ (at_ + len - 1) / 64 ∧ (at_ + len - 1) / 64 ≤ 1099511627776 := by omega
        have hbx : ((w.alloc (.cells #[.int .i64 n, .slice SA stash.length sc, .slice WA waves.length wq] 30)).alloc (.cells #[.int .i64 0, .int .i64 at_, .int .i64 len] 80)).heap[w.heap.size]? = some (.cells #[.int .i64 n, .slice SA stash.length sc, .slice WA waves.length wq] 30 (0, 0)) := (heap_alloc_old _ _ (by simp)).trans (heap_alloc_new w _)
        have hxb : ((w.alloc (.cells #[.int .i64 n, .slice SA stash.length sc, .slice WA waves.length wq] 30)).alloc (.cells #[.int .i64 0, .int .i64 at_, .int .i64 len] 80)).heap[w.heap.size + 1]? = some (.cells #[.int .i64 0, .int .i64 at_, .int .i64 len] 80 (0, 0)) := by
          have := heap_alloc_new (w.alloc (.cells #[.int .i64 n, .slice SA stash.length sc, .slice WA waves.length wq] 30)) (.cells #[.int .i64 0, .int .i64 at_, .int .i64 len] 80)
          simpa using this
        have HBX := Lib.hid hbx
        have HXB := Lib.hid hxb
        clear hbx hxb v0 HP2 hxx hx
        go_enter Tryz.func73, Tryz.ntmps73
        go_wp2_with fail
        generalize (w.alloc (.cells #[.int .i64 n, .slice SA stash.length sc, .slice WA waves.length wq] 30)).alloc (.cells #[.int .i64 0, .int .i64 at_, .int .i64 len] 80) = W2 at *
        go_loopw [12] (fun i wx => ∃ c : Nat, i = .int .i64 (at_ / 64 + c) ∧ at_ / 64 + c ≤ (at_ + len - 1) / 64 + 1 ∧ Hid (∀ b' : Int, at_ / 64 ≤ b' → b' < at_ / 64 + c → wrB W k b' = false) ∧ Hid (Below W2.heap.size W2 wx)) (fun i _ => ((at_ + len - 1) / 64 + 1 - intOf i).toNat)
        case atStart => exact ⟨0, by simp, by omega, Lib.hid (fun b' h1 h2 => by omega), Lib.hid (Below.refl _ _)⟩
        case round =>
          obtain ⟨c, rfl, hc1, HU, HB3⟩ := hrel
          have y := (HB3.out.block _ (Array.getElem?_eq_some_iff.1 HXB.out).1).trans HXB.out
          have z := (HB3.out.block _ (Array.getElem?_eq_some_iff.1 HBX.out).1).trans HBX.out
          have y1 : wr.cell? ⟨w.heap.size + 1, 1, none⟩ = some (.int .i64 at_) := cell_of_row _ _ 1 _ 80 (0, 0) y
          have y2 : wr.cell? ⟨w.heap.size + 1, 2, none⟩ = some (.int .i64 len) := cell_of_row _ _ 2 _ 80 (0, 0) y
          have z0 : wr.cell? ⟨w.heap.size, 0, none⟩ = some (.int .i64 n) := cell_of_row _ _ 0 _ 30 (0, 0) z
          have z1 : wr.cell? ⟨w.heap.size, 1, none⟩ = some (.slice SA stash.length sc) := cell_of_row _ _ 1 _ 30 (0, 0) z
          have z2 : wr.cell? ⟨w.heap.size, 2, none⟩ = some (.slice WA waves.length wq) := cell_of_row _ _ 2 _ 30 (0, 0) z
          have HBW := Lib.hid (HB.out.trans (HB3.out.mono HB.out.size))
          have w3 : IntKind.i64.wrap (at_ / 64 + c + 1) = at_ / 64 + c + 1 := IntWalk.i64_in _ (by omega)
          clear y z
          by_cases hgo : at_ / 64 + c ≤ (at_ + len - 1) / 64
          · have HCL := Lib.hid (HW.out wr HBW.out (at_ / 64 + c))
            cases hub : wrB W k (at_ / 64 + c)
            · rw [hub] at HCL
              go_wp2_with fail
              refine HCL.out.mono ?_
              rintro e w5 ⟨rfl, hb5⟩
              have HB5 := Lib.hid (HB3.out.trans (hb5.mono HB3.out.size))
              clear hb5
              go_wp2_with fail
              go_roundw
              case measure => simp [intOf]; omega
              case rel => exact ⟨c + 1, by congr 1; omega, by omega, Lib.hid (fun b' h1 h2 => by
                by_cases h3 : b' = at_ / 64 + c
                · rw [h3]; exact hub
                · exact HU.out b' h1 (by omega)), HB5⟩
            · rw [hub] at HCL
              have HV : Hid (pv = false) := Lib.hid (HNO.out fun h => by
                have hl := HXX.out
                have := h.2.2 rfl (at_ / 64 + c) (by simp only; omega) (by simp only; omega)
                simp only at this
                rw [hub] at this
                cases this)
              clear hub
              go_wp2_with fail
              refine HCL.out.mono ?_
              rintro e w5 ⟨rfl, hb5⟩
              have HB5 := Lib.hid (HBW.out.trans (hb5.mono HBW.out.size))
              clear hb5
              go_wp2_with fail
              go_ret
              exact ⟨Sc.ret_bool HV.out.symm, HB5.out⟩
          · have HV : Hid (pv = true) := Lib.hid (HYES.out ⟨by simpa using HC.out.1, by simpa using HC.out.2, fun _ b' h1 h2 => by
              have hl := HXX.out
              simp only at h1 h2
              exact HU.out b' h1 (by omega)⟩)
            have hst : (at_ + len - 1) / 64 < at_ / 64 + c := by omega
            go_wp2_with fail
            go_ret
            exact ⟨Sc.ret_bool HV.out.symm, HBW.out⟩
      · have HV : Hid (pv = false) := Lib.hid (HNO.out fun h => c2 (by simpa using h.2.1))
        have c3 : size - at_ < len := by omega
        go_enter Tryz.func73, Tryz.ntmps73
        go_wp2_with fail
        go_ret
        exact ⟨Sc.ret_bool HV.out.symm, HB.out⟩
    · have HV : Hid (pv = false) := Lib.hid (HNO.out fun h => c1 (by simpa using h.1))
      have c3 : size < at_ := by omega
      go_enter Tryz.func73, Tryz.ntmps73
      go_wp2_with fail
      go_ret
      exact ⟨Sc.ret_bool HV.out.symm, HB.out⟩
end Go.Proofs.YtblibmalommdkaaGreat

/-
  How many steps a plan has: moves.Total, and the reference's.
-/
namespace Go.Proofs.YtblibmalommdkaaGreat
open Go.RowKit
/-- How many steps, as the machine counts them. -/
def totS (W : List WvV) : Int := W.foldl (fun n v => IntKind.i64.wrap (n + v.steps.length)) 0
theorem totS_next {W : List WvV} {k : Nat} {v : WvV} (h : W[k]? = some v) : totS (W.take (k + 1)) = IntKind.i64.wrap (totS (W.take k) + v.steps.length) := by
  unfold totS
  rw [Sc.take_snoc W k v h, List.foldl_append]; rfl
def sumS : List WvV → Nat
  | [] => 0
  | v :: W => v.steps.length + sumS W
theorem totS_sum : ∀ (W : List WvV) (n : Int), 0 ≤ n → n + sumS W ≤ 9223372036854775807 → W.foldl (fun n v => IntKind.i64.wrap (n + v.steps.length)) n = n + sumS W := by
  intro W
  induction W with
  | nil => intro n _ _; simp [sumS]
  | cons v W ih =>
    intro n h0 h1
    simp only [sumS] at h1 ⊢
    rw [List.foldl_cons, IntWalk.i64_in _ (by omega), ih _ (by omega) (by omega)]
    omega
theorem totS_eq {W : List WvV} (h : sumS W ≤ 9223372036854775807) : totS W = sumS W := by
  have := totS_sum W 0 (Int.le_refl _) (by omega)
  unfold totS
  omega
set_option maxRecDepth 100000 in
set_option maxHeartbeats 2000000 in
theorem RefTotal_any (p : PlV) (w : World) (hP : PlOk w w.heap.size p) :
    Calls Tryz.prog 32 #[.agg p.cells] w fun e w' => e = .returned (.int .i64 (totS p.waves)) ∧ Below w.heap.size w w' := by
  obtain ⟨n, SA, sc, stash, WA, wq, waves⟩ := p
  unfold PlV.cells at *
  simp only at *
  have hb1 : Below w.heap.size w (w.alloc (.cells #[.int .i64 n, .slice SA stash.length sc, .slice WA waves.length wq] 30)) := (Below.refl _ _).alloc (Nat.le_refl _) _
  have HB := Lib.hid hb1
  have HP := Lib.hid hP
  have HNX := Lib.hid (fun (k : Nat) (v : WvV) (h : waves[k]? = some v) => totS_next h)
  have hwl : waves.length ≤ 9223372036854775807 := Nat.le_trans hP.wcap.1 hP.wcap.2
  have hbx : (w.alloc (.cells #[.int .i64 n, .slice SA stash.length sc, .slice WA waves.length wq] 30)).cell? ⟨w.heap.size, 2, none⟩ = some (.slice WA waves.length wq) := cell_new w _ 30 2
  have hlt0 : w.heap.size < (w.alloc (.cells #[.int .i64 n, .slice SA stash.length sc, .slice WA waves.length wq] 30)).heap.size := by simp
  clear hb1 hP
  go_enter Tryz.func32, Tryz.ntmps32
  go_wp2_with fail
  generalize hpb : w.heap.size = pb at *
  generalize w.alloc (.cells #[.int .i64 n, .slice SA stash.length sc, .slice WA waves.length wq] 30) = W1 at *
  go_loopw [3, 4] (fun s i wr => ∃ x : Nat, x ≤ waves.length ∧ i = .int .i64 x ∧ s = .int .i64 (totS (waves.take x)) ∧ wr = W1) (fun _ i _ => waves.length - (intOf i).toNat)
  case atStart => exact ⟨0, Nat.zero_le _, rfl, rfl, rfl⟩
  case round =>
    obtain ⟨x, hx, rfl, rfl, rfl⟩ := hrel
    by_cases hlt : x < waves.length
    · obtain ⟨v, hv⟩ := Sc.get_some waves x hlt
      obtain ⟨wb, woff, rfl, hwb, w0, hwv⟩ := (HP.out.wv.below HB.out (Nat.le_refl _)) x v hv
      have HVS := Lib.hid (HNX.out x v hv)
      obtain ⟨VA, vc, steps⟩ := v
      simp only at w0
      clear hv hwv
      go_wp2_with fail
      go_roundw
      case measure => simp [intOf]; omega
      case rel => exact ⟨x + 1, by omega, by go_num, by rw [HVS.out, IntWalk.i64_left], trivial⟩
    · obtain rfl : x = waves.length := by omega
      clear hlt
      rw [List.take_length]
      go_wp2_with fail
      go_ret
      exact ⟨rfl, (by first | exact HB.out | (rw [hpb]; exact HB.out))⟩
end Go.Proofs.YtblibmalommdkaaGreat
