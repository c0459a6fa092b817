/-
  The reference's Run: what it leaves.
-/
import Derived.Test.YteceephenfmdoaaNRun
import Derived.Test.YteceephenfmdoaaSE
namespace Go.Proofs.Yteceephenfmdoaa
open Go.RowKit
open Sc (RdB OwnB bcells RdBL)
theorem RdB.grown {w w' : World} {B g : Nat} {A : Option Addr} {l : List Int} (h : RdB w B A l) (hg : w.grownBy w' (some g)) (hB : B ≤ g) (hs : B ≤ w.heap.size) : RdB w' B A l := h.keep fun p hp => World.cell?_of_block (hg.block p.block (by omega) (fun e => by injection e with e; omega))
theorem RdBL.of3 {w : World} {B sb : Nat} {A A1 A2 : Option Addr} {n c n1 c1 n2 c2 : Nat} {l l1 l2 : List Int} (hb : sb < B) (e0 : w.cell? ⟨sb, 0, none⟩ = some (.slice A n c)) (e1 : w.cell? ⟨sb, 1, none⟩ = some (.slice A1 n1 c1)) (e2 : w.cell? ⟨sb, 2, none⟩ = some (.slice A2 n2 c2)) (h : RdB w B A l) (hn : l.length = n) (hc : n ≤ c ∧ c ≤ maxLen) (h1 : RdB w B A1 l1) (hn1 : l1.length = n1) (hc1 : n1 ≤ c1 ∧ c1 ≤ maxLen) (h2 : RdB w B A2 l2) (hn2 : l2.length = n2) (hc2 : n2 ≤ c2 ∧ c2 ≤ maxLen) :
    RdBL w B (some ⟨sb, 0, none⟩) [l, l1, l2] := by
  subst hn; subst hn1; subst hn2
  intro k l' hl
  match k, hl with
  | 0, hl =>
    simp at hl; subst hl
    exact ⟨sb, 0, A, c, rfl, hb, e0, hc.1, hc.2, h⟩
  | 1, hl =>
    simp at hl; subst hl
    exact ⟨sb, 0, A1, c1, rfl, hb, e1, hc1.1, hc1.2, h1⟩
  | 2, hl =>
    simp at hl; subst hl
    exact ⟨sb, 0, A2, c2, rfl, hb, e2, hc2.1, hc2.2, h2⟩
  | k+3, hl => simp at hl
/-- A byte laid into a file of the call's own. -/
theorem OwnB.setAt {w : World} {base g n c : Nat} {l : List Int} (h : OwnB w base (some ⟨g, 0, none⟩) n c l) {i : Nat} (_hi : i < n) (x : Int) : OwnB (w.setCell ⟨g, i, none⟩ (.int .u8 x)) base (some ⟨g, 0, none⟩) n c (l.set i x) := by
  have h1 := (h.2.stored i (.int .u8 x)).1
  refine ⟨by rw [List.length_set]; exact h.1, ?_⟩
  have e : (bcells l).set i (.int .u8 x) = bcells (l.set i x) := by simp [bcells]
  rw [← e]
  exact h1
theorem splB_nil (f : List Int) (o : Nat) : splB f o [] = f := by simp [splB]
theorem splB_step {f X : List Int} {o j : Nat} {x : Int} (hx : X[j]? = some x) (hf : o + X.length ≤ f.length) : (splB f o (X.take j)).set (o + j) x = splB f o (X.take (j + 1)) := by
  have hj := (List.getElem?_eq_some_iff.1 hx).1
  have l1 : (X.take j).length = j := by rw [List.length_take]; omega
  have l2 : (X.take (j + 1)).length = j + 1 := by rw [List.length_take]; omega
  apply List.ext_getElem?
  intro i
  rw [List.getElem?_set, splB_get (by omega), splB_get (by omega), splB_len (by omega), l1, l2]
  by_cases h1 : o + j = i
  · subst h1
    rw [if_pos rfl, if_pos (by omega), if_pos (by omega), Nat.add_sub_cancel_left, List.getElem?_take_of_lt (by omega), hx]
  · rw [if_neg h1]
    by_cases h2 : o ≤ i ∧ i < o + j
    · rw [if_pos h2, if_pos (by omega), List.getElem?_take_of_lt (by omega), List.getElem?_take_of_lt (by omega)]
    · rw [if_neg h2, if_neg (by omega)]
set_option maxRecDepth 100000 in
set_option maxHeartbeats 4000000 in
theorem RefRun_ok (p : PlV) (orig tl : List Int) (OA : Option Addr) (on oc : Nat) (TA : Option Addr) (tn tc : Nat) (w : World) (hP : PlOk w w.heap.size p) (hPl : PlanP p.pln on tn) (ho : orig.length = on) (hro : RdB w w.heap.size OA orig) (hoc : on ≤ oc ∧ oc ≤ maxLen)
    (ht : tl.length = tn) (hrt : RdB w w.heap.size TA tl) (htc : tn ≤ tc ∧ tc ≤ maxLen) (hon : on ≤ 100000) (_htn : tn ≤ 100000) (hwl : p.waves.length ≤ 1000000) :
    Calls Try.prog 34 #[.agg p.cells, .slice OA on oc, .slice TA tn tc] w fun e w' => (∃ A n c, e = .returned (.slice A n c) ∧ OwnB w' w.heap.size A n c (runF p.pln orig tl)) ∧ Below w.heap.size w w' := by
  obtain ⟨i0, hi, hz0, hz1, hz2⟩ := info_parts Sc.info5
  have HPL := Lib.hid hPl
  have HO := Lib.hid ho; have HRO := Lib.hid hro
  have HT := Lib.hid ht; have HRT := Lib.hid hrt; have HTC := Lib.hid htc
  have hsl : p.stash.length ≤ 100000 := by
    have h1 := right_len p.stash (-1) hPl.2.2.1
    have h2 := right_tot_le hPl.2.2.1 on (by omega) hPl.2.2.2.1
    simp only [PlV.pln] at h1 h2; omega
  have hn0 : 0 ≤ p.size := hPl.1
  have hn1 : p.size ≤ 1048576 := hPl.2.1
  unfold maxLen at hoc htc
  have hb1 : Below w.heap.size w (w.alloc (.cells p.cells 32)) := (Below.refl _ _).alloc (Nat.le_refl _) _
  have HX2 : Hid ((w.alloc (.cells p.cells 32)).heap[w.heap.size]? = some (.cells p.cells 32 (0, 0))) := Lib.hid (heap_alloc_new w _)
  have HB2 := Lib.hid hb1
  have HP2 := Lib.hid (hP.below hb1 (Nat.le_refl _))
  have HRO2 := Lib.hid (HRO.out.below hb1 (Nat.le_refl _))
  have HRT2 := Lib.hid (HRT.out.below hb1 (Nat.le_refl _))
  have hz1 : (w.alloc (.cells p.cells 32)).heap.size = w.heap.size + 1 := by simp
  have HEB2 := Lib.hid hz1
  clear hPl hP ho hro ht hrt htc hb1 hz1 HRO HRT
  obtain ⟨n, SA, sc, stash, WA, wq, waves⟩ := p
  simp only at hsl hn0 hn1 hwl
  have HQL : Hid (PlanP ⟨n, stash, waves.map WvV.wv⟩ on tn) := HPL
  clear HPL
  have HRR : Hid (Right stash ∧ ∀ r ∈ stash, r.2 ≤ (on : Int)) := Lib.hid ⟨HQL.out.2.2.1, HQL.out.2.2.2.1⟩
  unfold PlV.cells at *
  simp only at *
  go_enter Try.func34, Try.ntmps34
  go_wp2_with fail
  generalize hpb : w.heap.size = pb at *
  have HPB := Lib.hid hpb
  clear hpb
  generalize w.alloc (.cells #[.int .i64 n, .slice SA stash.length sc, .slice WA waves.length wq] 32) = w2 at *
  go_loopw [7, 8] (fun v i wr => ∃ (k : Nat) (A : Option Addr) (m c : Nat), k ≤ stash.length ∧ i = .int .i64 k ∧ v = .slice A m c ∧ m ≤ on ∧ Hid (OwnB wr (pb + 1) A m c (stashB orig (stash.take k)) ∧ Below (pb + 1) w2 wr)) (fun _ i _ => stash.length - (intOf i).toNat)
  case atStart => exact ⟨0, none, 0, 0, Nat.zero_le _, rfl, rfl, Nat.zero_le _, Lib.hid ⟨by simpa [stashB] using Sc.OwnB.nil w2 (pb + 1), Below.refl _ _⟩⟩
  case round =>
    obtain ⟨k, A, m, c, hk, rfl, rfl, hm, HI⟩ := hrel
    have hsz : pb + 1 ≤ wr.heap.size := by have := HI.out.2.size; have := HEB2.out; omega
    have e1 : wr.cell? ⟨pb, 1, none⟩ = some (.slice SA stash.length sc) := cell_of_row _ _ 1 _ 32 (0, 0) ((HI.out.2.block pb (by omega)).trans HX2.out)
    by_cases hlt : k < stash.length
    · obtain ⟨r, hr⟩ := Sc.get_some stash k hlt
      obtain ⟨b, off, rfl, hbb, d0, d1⟩ := (HP2.out.st.below HI.out.2 (by omega)) k r hr
      have hin := List.mem_of_getElem? hr
      have hrm := right_mem HRR.out.1 hin
      have hrt := HRR.out.2 r hin
      have hnx := stashB_next orig hr
      have hml : ((stashB orig (stash.take (k + 1))).length : Int) ≤ on := by
        have h1 := right_tot_le (right_take HRR.out.1 (k + 1)) on (by omega) (fun s hs => HRR.out.2 s (List.mem_of_mem_take hs))
        have h2 := stash_len (stash.take (k + 1)) (-1) orig (by omega) (right_take HRR.out.1 (k + 1)) (fun s hs => by have := HRR.out.2 s (List.mem_of_mem_take hs); have := HO.out; omega)
        omega
      rw [hnx, List.length_append] at hml
      have HNX := Lib.hid hnx
      obtain ⟨f, t⟩ := r
      simp only at d0 d1 hrm hrt hml
      obtain ⟨φ, rfl⟩ := Int.eq_ofNat_of_zero_le (show 0 ≤ f by omega)
      obtain ⟨τ, rfl⟩ := Int.eq_ofNat_of_zero_le (show 0 ≤ t by omega)
      simp only [Int.toNat_natCast] at HNX hml
      have hft : φ < τ := by omega
      have hto : τ ≤ on := by omega
      have htn : ((τ : Int) - (φ : Int)).toNat = τ - φ := by omega
      rw [htn] at HNX hml
      have hpl : ((orig.drop φ).take (τ - φ)).length = τ - φ := by rw [List.length_take, List.length_drop]; have := HO.out; omega
      have HPLL := Lib.hid hpl
      have hmm : m + (τ - φ) ≤ on := by rw [hpl, HI.out.1.1] at hml; omega
      obtain ⟨u, hu⟩ := Sc.get_some orig 0 (by have := HO.out; omega)
      obtain ⟨ob, ooff, rfl, hob, _⟩ := HRO2.out 0 u hu
      have HPI := Lib.hid (((HRO2.out.below HI.out.2 (by omega)).piece φ (τ - φ)).more (B' := wr.heap.size) (by omega))
      have hck : (oc = φ) = False := by simp; omega
      have hsub : (τ : Int) - (φ : Int) = ((τ - φ : Nat) : Int) := by omega
      have HBI := Lib.hid HI.out.2
      have HOI := Lib.hid HI.out.1
      have j0 : (0 : Int) ≤ (φ : Int) := by omega
      have j1 : (φ : Int) ≤ (τ : Int) := by omega
      have j2 : (τ : Int) ≤ (oc : Int) := by omega
      have j3 : (0 : Int) ≤ (k : Int) := by omega
      have j4 : (k : Int) < (stash.length : Int) := by omega
      have hbw : b < wr.heap.size := by omega
      have hpw : pb < wr.heap.size := by omega
      clear hr hin hrm hrt hnx hml htn hpl hu HI
      go_wp2_with fail
      have hfar : ∀ x : Nat, x ≤ pb → some x ≠ (Value.slice A m c).ownBlock := fun x hx e => by have := (HOI.out.2.lt x e.symm).1; omega
      go_region_held3 (fun w' => w'.cell? ⟨pb, 1, none⟩ = some (.slice (some ⟨b, off, none⟩) stash.length sc) ∧ w'.cell? ⟨b, off + k * 2, none⟩ = some (.int .i64 (φ : Int)) ∧ w'.cell? ⟨b, off + k * 2 + 1, none⟩ = some (.int .i64 (τ : Int)))
        (first | exact ⟨e1, d0, d1⟩ | (exact ⟨(hgrow5.cell_far ⟨pb, 1, none⟩ hpw (hfar pb (Nat.le_refl _))).trans e1, (hgrow5.cell_far ⟨b, off + k * 2, none⟩ hbw (hfar b (by omega))).trans d0, (hgrow5.cell_far ⟨b, off + k * 2 + 1, none⟩ hbw (hfar b (by omega))).trans d1⟩) | (go_keep; done))
        ((first
          | (refine step_append_lies _ (by rfl) (.tmp 25) (.tmp 39) 22 (by rfl) (pb + 1) 5 i0 _ 1 1 Try.underlying22 hi hz0 hz1 hz2 rfl (by decide) (.slice A m c) m (bcells (stashB orig (stash.take k))) (by rfl) (HOI.out.drewN 1).2 ⟨ob, ooff + φ, none⟩ (τ - φ) _ (bcells ((orig.drop φ).take (τ - φ))) (by rfl) (by rw [bcells, List.length_map, HPLL.out]; omega) (HPI.out.drewN 1).cells (Sc.bcells_one _) (by omega) (by unfold maxLen; omega) (by omega) (by simp; omega) wr.heap.size (by rfl) ?_; intro g5 k5 w5 hown5 hgrow5 hat5 hlt5)
          | fail))
      all_goals
        have HN5 : Hid (OwnB w5 (pb + 1) (some ⟨g5, 0, none⟩) (m + (τ - φ)) k5 (stashB orig (stash.take (k + 1))) ∧ Below (pb + 1) w2 w5) := Lib.hid ⟨⟨by rw [HNX.out, List.length_append, HPLL.out, HOI.out.1], by
          have e : bcells (stashB orig (stash.take (k + 1))) = bcells (stashB orig (stash.take k)) ++ bcells ((orig.drop φ).take (τ - φ)) := by rw [HNX.out]; simp [bcells]
          rw [e]; exact hown5⟩, (belowDrewN HBI.out 1).grown hgrow5 (by simp; omega) (fun x hx => (HOI.out.2.lt x hx).1)⟩
        clear hown5 hgrow5 hat5 hlt5 hfar e1 d0 d1 hbw hpw HPI HOI HBI
        go_wp2_with fail
        go_roundw
        case measure => simp [intOf]; omega
        case rel => exact ⟨k + 1, _, m + (τ - φ), k5, by omega, by go_num, rfl, hmm, HN5⟩
    · obtain rfl : k = stash.length := by omega
      clear hlt hk
      rw [List.take_length] at HI
      have HPW : Hid (PlOk wr pb ⟨n, SA, sc, stash, WA, wq, waves⟩) := Lib.hid (HP2.out.below HI.out.2 (by omega))
      have HROW := Lib.hid (HRO2.out.below HI.out.2 (by omega))
      have HRTW := Lib.hid (HRT2.out.below HI.out.2 (by omega))
      have HXW := Lib.hid ((HI.out.2.block pb (by omega)).trans HX2.out)
      have HBW := Lib.hid (HB2.out.trans (HI.out.2.mono (by omega)))
      have HST := Lib.hid HI.out.1
      have hpbw : pb < wr.heap.size := by omega
      clear HI HP2 HRO2 HRT2 HX2 HB2
      go_wp2_with fail
      clear e1
      refine (Sc.Copy_any OA on oc wr orig HO.out (HROW.out.more (by omega)) (by omega)).mono ?_
      rintro e w3 ⟨⟨A3, n3, c3, rfl, ho3⟩, hb3⟩
      obtain rfl : on = n3 := HO.out.symm.trans ho3.1
      have HO3 := Lib.hid ho3
      have HB3 := Lib.hid hb3
      generalize wr = W0 at *
      generalize hG : W0.heap.size = G at *
      have HEG := Lib.hid hG
      obtain ⟨z, hzz⟩ : ∃ z : Nat, z = n.toNat - on := ⟨_, rfl⟩
      have HZZ := Lib.hid hzz
      have hz5 : z ≤ 1048576 := by omega
      have hgl : ∀ k g : Nat, k + g = z → (g = 0 → ¬ ((on + k : Nat) : Int) < n) ∧ (g ≠ 0 → ((on + k : Nat) : Int) < n) := fun k g h => by omega
      have HGL := Lib.hid hgl
      clear ho3 hb3 hG hzz hgl hsz
      go_wp2_with fail
      go_loopg [9] z (fun gk v wx => ∃ (k : Nat) (A' : Option Addr) (c' : Nat), k + gk = z ∧ v = .slice A' (on + k) c' ∧ Hid (OwnB wx G A' (on + k) c' (orig ++ List.replicate k 0) ∧ Below G W0 wx))
      case atStart => exact ⟨0, A3, c3, by omega, rfl, Lib.hid ⟨by simpa using HO3.out, HB3.out⟩⟩
      case round =>
        clear HO3 HB3
        obtain ⟨k, A', c', hk, rfl, HI⟩ := hrel
        have hGw : G ≤ wr.heap.size := by have := HI.out.2.size; have := HEG.out; omega
        have e0 : wr.cell? ⟨pb, 0, none⟩ = some (.int .i64 n) := cell_of_row _ _ 0 _ 32 (0, 0) ((HI.out.2.block pb (by omega)).trans HXW.out)
        cases gk with
        | succ gg =>
          have hlt : ((on + k : Nat) : Int) < n := (HGL.out k _ hk).2 (by omega)
          have hcap := HI.out.1.cap
          unfold maxLen at hcap
          go_wp2_with (at_builtin; (refine wpList_append_own _ rfl _ _ 22 rfl G 5 i0 _ 1 1 Try.underlying22 hi hz0 hz1 hz2 rfl (by decide) _ _ _ rfl (HI.out.1.alloc _).2 ⟨wr.heap.size, 0, none⟩ 1 1 (bcells [0]) rfl rfl (Sc.newb_one _ 0 _ rfl) (Sc.bcells_one _) (by unfold maxLen; omega) (by omega) (by simp; omega) ?_))
          intro v' w5 hown' hgrow _
          obtain ⟨⟨A'', c'', hv, hown2⟩, hb5, _, hz3, hcl⟩ := Sc.appB_step HI.out.1 HI.out.2 hGw ((Below.refl _ _).alloc (Nat.le_refl _) _) (m := 1) (K := [0]) rfl hown' hgrow
          rw [hv]
          have HN : Hid (OwnB w5 G A'' (on + (k + 1)) c'' (orig ++ List.replicate (k + 1) 0)) := Lib.hid (by rw [List.replicate_succ', ← List.append_assoc]; exact hown2)
          have HB5 := Lib.hid hb5
          clear hcl hgrow hown' hv hown2 hb5 hz3 e0 HI
          go_wp2_with fail
          go_roundg gg
          case measure => omega
          case rel => exact ⟨k + 1, A'', c'', by omega, rfl, Lib.hid ⟨HN.out, HB5.out⟩⟩
        | zero =>
          have hnlt : ¬ ((on + k : Nat) : Int) < n := by have := (HGL.out k 0 hk).1 rfl; omega
          obtain rfl : k = z := by omega
          have HF0 : Hid (OwnB wr G A' (on + k) c' (fileW ⟨n, stash, waves.map WvV.wv⟩ orig tl 0)) := Lib.hid (by
            have h := HI.out.1
            have e : k = n.toNat - orig.length := by rw [HO.out]; exact HZZ.out
            rw [e] at h
            rw [e]
            exact h)
          have HB0 := Lib.hid HI.out.2
          have HLL : Hid (((on + k : Nat) : Int) = max (on : Int) n) := Lib.hid (by have := HZZ.out; omega)
          have hLb : on + k ≤ 1148576 := by omega
          have hnL : n ≤ ((on + k : Nat) : Int) := by have := HLL.out; omega
          have hoL : on ≤ on + k := by omega
          have hcap := HI.out.1.cap
          unfold maxLen at hcap
          have HSTL : Hid ((stashB orig stash).length = m ∧ (m : Int) = tot stash) := Lib.hid ⟨HST.out.1, by
            have h1 := stash_len stash (-1) orig (by omega) HRR.out.1 (fun r hr => by have := HRR.out.2 r hr; have := HO.out; omega)
            have h2 := HST.out.1
            omega⟩
          have HSTC := Lib.hid HST.out.cap
          have HSTR : Hid (RdB W0 G A (stashB orig stash)) := Lib.hid (by have h := HST.out.rd; rw [HEG.out] at h; exact h)
          clear HI HZZ HGL hz5 hk HST
          go_wp2_with fail
          clear e0 hnlt
          generalize on + k = L at *
          go_loopw [10] (fun i wx => ∃ k : Nat, k ≤ waves.length ∧ i = .int .i64 k ∧ Hid (Below G W0 wx ∧ OwnB wx G A' L c' (fileW ⟨n, stash, waves.map WvV.wv⟩ orig tl k))) (fun i _ => waves.length - (intOf i).toNat)
          case atStart => exact ⟨0, Nat.zero_le _, rfl, Lib.hid ⟨HB0.out, HF0.out⟩⟩
          case round =>
            clear HB0 HF0
            obtain ⟨k, hk, rfl, HI⟩ := hrel
            have hGw : G ≤ wr.heap.size := by have := HI.out.1.size; have := HEG.out; omega
            have e2 : wr.cell? ⟨pb, 2, none⟩ = some (.slice WA waves.length wq) := cell_of_row _ _ 2 _ 32 (0, 0) ((HI.out.1.block pb (by omega)).trans HXW.out)
            by_cases hlt : k < waves.length
            · obtain ⟨v, hv⟩ := Sc.get_some waves k hlt
              obtain ⟨wb, woff, rfl, hwb, w0, hwv⟩ := (HPW.out.wv.below HI.out.1 (by omega)) k v hv
              have hvw : (waves.map WvV.wv)[k]? = some v.wv := by rw [List.getElem?_map, hv]; rfl
              obtain ⟨wrr, hWV⟩ := wavesP_at _ _ _ _ HQL.out.2.2.2.2 hvw
              have HWV := Lib.hid hWV.2.2.1
              have hvl : v.steps.length ≤ 64 := by have := hWV.2.1; simpa [WvV.wv] using this
              have hvl1 : 1 ≤ v.steps.length := by have := hWV.1; simpa [WvV.wv] using this
              have HFN := Lib.hid (fileW_next (p := ⟨n, stash, waves.map WvV.wv⟩) (orig := orig) (tail := tl) hvw)
              generalize hf : fileW ⟨n, stash, waves.map WvV.wv⟩ orig tl k = f at *
              have hfl : f.length = L := HI.out.2.1
              have HFL := Lib.hid hfl
              have HVW : Hid (∀ (j : Nat) s, v.steps[j]? = some s → v.wv[j]? = some s.st) := Lib.hid (fun j s h => by simp [WvV.wv, h])
              have HVL : Hid (v.wv.length = v.steps.length) := Lib.hid (by simp [WvV.wv])
              have hL1 : 1 ≤ L := by
                obtain ⟨s0, hs0⟩ := Sc.get_some v.steps 0 hvl1
                have hin := List.mem_of_getElem? (HVW.out 0 s0 hs0)
                have htx := (HWV.out _ hin).text (f := f) (t := tl) (st := stashB orig stash) (by omega) (by show n ≤ _; omega) hn1 (by have := HT.out; omega) (by have := HSTL.out.1; have := HSTL.out.2; show tot stash ≤ _; omega)
                have h8 : 64 * s0.st.1 + ((Sc.textB [f, tl, stashB orig stash] s0.st.2).length : Int) ≤ n := htx.2.2.2.2.1
                omega
              generalize v.wv = V at *
              obtain ⟨VA, vc, steps⟩ := v
              simp only at w0 hvl HVW HVL
              have HVO := Lib.hid hwv
              have hvc : steps.length ≤ vc ∧ vc ≤ 9223372036854775807 := hwv.cap
              clear hv hwv hvw hWV hf hfl hvl1
              have HFB : Hid (OwnB wr G A' L c' f) := Lib.hid HI.out.2
              have HBI := Lib.hid HI.out.1
              have HSTW := Lib.hid ((HSTR.out.below HI.out.1 (Nat.le_refl _)).more hGw)
              have HRTV := Lib.hid ((HRTW.out.below HI.out.1 (by omega)).more (B' := wr.heap.size) (by omega))
              clear HI
              obtain ⟨g, rfl, hgG, hgw, _, _⟩ := HFB.out.form (by omega)
              go_wp2_with fail
              refine (Sc.Copy_any (some ⟨g, 0, none⟩) L c' wr f HFL.out HFB.out.rd (by omega)).mono ?_
              rintro e w4 ⟨⟨aA, an, ac, rfl, ho4⟩, hb4⟩
              obtain rfl : L = an := HFL.out.symm.trans ho4.1
              have HA4 : Hid (TxOk w4 wr.heap.size ⟨aA, ac, f⟩) := Lib.hid (TxOk.of_own ho4)
              have hb5 : Below wr.heap.size wr (w4.alloc (.cells #[.slice aA L ac, .slice TA tn tc, .slice A m c] 22)) := hb4.alloc hb4.size _
              have hbA : Below w4.heap.size w4 (w4.alloc (.cells #[.slice aA L ac, .slice TA tn tc, .slice A m c] 22)) := (Below.refl _ _).alloc (Nat.le_refl _) _
              have HA5 := Lib.hid (HA4.out.same hbA.size (fun b hb => hbA.block b (HA4.out.lt hb)))
              have x0 : (w4.alloc (.cells #[.slice aA L ac, .slice TA tn tc, .slice A m c] 22)).cell? ⟨w4.heap.size, 0, none⟩ = some (.slice aA L ac) := cell_new w4 _ 22 0
              have x1 : (w4.alloc (.cells #[.slice aA L ac, .slice TA tn tc, .slice A m c] 22)).cell? ⟨w4.heap.size, 1, none⟩ = some (.slice TA tn tc) := cell_new w4 _ 22 1
              have x2 : (w4.alloc (.cells #[.slice aA L ac, .slice TA tn tc, .slice A m c] 22)).cell? ⟨w4.heap.size, 2, none⟩ = some (.slice A m c) := cell_new w4 _ 22 2
              have HX := Lib.hid (And.intro x0 (And.intro x1 x2))
              have HB5 := Lib.hid hb5
              have HF5 := Lib.hid (HFB.out.below hb5 (Nat.le_refl _))
              have hsb : w4.heap.size < (w4.alloc (.cells #[.slice aA L ac, .slice TA tn tc, .slice A m c] 22)).heap.size := by simp
              have hz4 : wr.heap.size ≤ w4.heap.size := hb4.size
              have w0' : (w4.alloc (.cells #[.slice aA L ac, .slice TA tn tc, .slice A m c] 22)).cell? ⟨wb, woff + k, none⟩ = some (.slice VA steps.length vc) := (hb5.cell (p := ⟨wb, woff + k, none⟩) (by simp only; omega)).trans w0
              have e2' : (w4.alloc (.cells #[.slice aA L ac, .slice TA tn tc, .slice A m c] 22)).cell? ⟨pb, 2, none⟩ = some (.slice (some ⟨wb, woff, none⟩) waves.length wq) := (hb5.cell (p := ⟨pb, 2, none⟩) (by simp only; omega)).trans e2
              have HW0 := Lib.hid (And.intro w0' e2')
              have HACC := Lib.hid ho4.cap
              clear ho4 hb4 hb5 hbA x0 x1 x2 HA4 w0 e2 w0' e2'
              go_wp2_with fail
              generalize hWs : w4.alloc (.cells #[.slice aA L ac, .slice TA tn tc, .slice A m c] 22) = Ws at *
              generalize hBm : wr.heap.size = Bm at *
              have HBm := Lib.hid hBm
              generalize hsbe : w4.heap.size = sb at *
              clear hBm hWs hsbe
              have hgB : g < Bm := hgw
              have hsbg : sb ≠ g := by omega
              generalize wr = Wv at *
              go_loopw [13] (fun i wx => ∃ j : Nat, j ≤ steps.length ∧ i = .int .i64 j ∧ Hid (Ws.grownBy wx (some g) ∧ OwnB wx G (some ⟨g, 0, none⟩) L c' (putsK [f, tl, stashB orig stash] f V j))) (fun i _ => steps.length - (intOf i).toNat)
              case atStart => exact ⟨0, Nat.zero_le _, rfl, Lib.hid ⟨World.grownBy.refl _ _, HF5.out⟩⟩
              case round =>
                obtain ⟨j, hj, rfl, HJ⟩ := hrel
                have hWs : Bm < Ws.heap.size := by omega
                have hWx : Ws.heap.size ≤ wr.heap.size := HJ.out.1.size
                have y0 : wr.cell? ⟨wb, woff + k, none⟩ = some (.slice VA steps.length vc) := (HJ.out.1.cell_far ⟨wb, woff + k, none⟩ (by simp only; omega) (by simp only; intro e; injection e with e; omega)).trans HW0.out.1
                have y1 : wr.cell? ⟨pb, 2, none⟩ = some (.slice (some ⟨wb, woff, none⟩) waves.length wq) := (HJ.out.1.cell_far ⟨pb, 2, none⟩ (by simp only; omega) (by simp only; intro e; injection e with e; omega)).trans HW0.out.2
                have hkw : k < waves.length := hlt
                by_cases hlj : j < steps.length
                · obtain ⟨s, hs⟩ := Sc.get_some steps j hlj
                  obtain ⟨stb, soff, rfl, hstb, s0, s1, hso⟩ := HVO.out.rd j s hs
                  have hsv := HVW.out j s hs
                  have htx := (HWV.out s.st (List.mem_of_getElem? hsv)).text (f := f) (t := tl) (st := stashB orig stash) (by have := HFL.out; omega) (by have := HFL.out; show n ≤ _; omega) hn1 (by have := HT.out; omega) (by have := HSTL.out.1; have := HSTL.out.2; show tot stash ≤ _; omega)
                  have HPN := Lib.hid (putsK_next (srcs := [f, tl, stashB orig stash]) (f := f) hsv)
                  obtain ⟨blk, PA, pc, parts⟩ := s
                  simp only at s0 s1
                  simp only [StV.st] at htx HPN
                  have HTX := Lib.hid htx
                  have hpl : parts.length ≤ 9223372036854775807 := Nat.le_trans hso.cap.1 hso.cap.2
                  have t0 : wr.cell? ⟨stb, soff + j * 2, none⟩ = some (.int .i64 blk) := (HJ.out.1.cell_far ⟨stb, soff + j * 2, none⟩ (by simp only; omega) (by simp only; intro e; injection e with e; omega)).trans ((HB5.out.cell (p := ⟨stb, soff + j * 2, none⟩) (by simp only; omega)).trans s0)
                  have t1 : wr.cell? ⟨stb, soff + j * 2 + 1, none⟩ = some (.slice PA parts.length pc) := (HJ.out.1.cell_far ⟨stb, soff + j * 2 + 1, none⟩ (by simp only; omega) (by simp only; intro e; injection e with e; omega)).trans ((HB5.out.cell (p := ⟨stb, soff + j * 2 + 1, none⟩) (by simp only; omega)).trans s1)
                  have HBW5 := Lib.hid (HB5.out)
                  have hrp : Sc.Rd wr pb PA parts := (hso.rd.below HB5.out (by omega)).keep fun p hp => World.cell?_of_block (HJ.out.1.block p.block (by omega) (fun e => by injection e with e; omega))
                  have hsrc : RdBL wr wr.heap.size (some ⟨sb, 0, none⟩) [f, tl, stashB orig stash] := by
                    have far : ∀ i : Nat, wr.cell? ⟨sb, i, none⟩ = Ws.cell? ⟨sb, i, none⟩ := fun i => HJ.out.1.cell_far ⟨sb, i, none⟩ (by simp only; omega) (by simp only; intro e; injection e with e; omega)
                    have ha := HA5.out.same HJ.out.1.size (fun b hb => HJ.out.1.block b (HA5.out.lt hb) (fun e => by injection e with e; have := (HA5.out.ty b hb).1; omega))
                    refine RdBL.of3 (by omega) ((far 0).trans HX.out.1) ((far 1).trans HX.out.2.1) ((far 2).trans HX.out.2.2) ha.rd HFL.out HACC.out (RdB.grown ((HRTW.out.below HBI.out (by omega)).below HB5.out (by omega)) HJ.out.1 (by omega) (by omega) |>.more (by omega)) HT.out HTC.out (RdB.grown ((HSTR.out.below HBI.out (Nat.le_refl _)).below HB5.out (by omega)) HJ.out.1 (by omega) (by omega) |>.more (by omega)) HSTL.out.1 HSTC.out
                  have hb6 : Below wr.heap.size wr (wr.alloc (.cells #[.int .i64 blk, .slice PA parts.length pc] 70)) := (Below.refl _ _).alloc (Nat.le_refl _) _
                  have HRP := Lib.hid ((hrp.more (B' := wr.heap.size) (by omega)).up hb6)
                  have HSRC := Lib.hid (hsrc.up hb6)
                  have HB6 := Lib.hid hb6
                  have b0 : (wr.alloc (.cells #[.int .i64 blk, .slice PA parts.length pc] 70)).cell? ⟨wr.heap.size, 0, none⟩ = some (.int .i64 blk) := cell_new wr _ 70 0
                  have HB0 := Lib.hid b0
                  have hvb : wr.heap.size < (wr.alloc (.cells #[.int .i64 blk, .slice PA parts.length pc] 70)).heap.size := by simp
                  have HJG := Lib.hid HJ.out.1
                  have HJF := Lib.hid HJ.out.2
                  have hgx : g < wr.heap.size := by omega
                  clear hs s0 s1 hso hsv htx hrp hsrc hb6 b0 HJ
                  go_wp2_with fail
                  clear y0 y1 t0 t1
                  refine (Sc.refText_any PA parts.length pc (some ⟨sb, 0, none⟩) 3 3 _ parts [f, tl, stashB orig stash] rfl HRP.out hpl rfl HSRC.out (by omega)).mono ?_
                  rintro e w7 ⟨⟨bA, bn, bc, rfl, ho7⟩, hb7⟩
                  rw [HTX.out.2.1]
                  rw [HTX.out.2.2.1] at ho7
                  obtain ⟨_, _, _, z0, z1, z2, z3, z4⟩ := HTX.out
                  generalize hX : Sc.textB [f, tl, stashB orig stash] parts = X at *
                  obtain rfl := ho7.1
                  have hb67 : Below wr.heap.size wr w7 := HB6.out.trans (hb7.mono (by omega))
                  have HTB : Hid (TxOk w7 wr.heap.size ⟨bA, bc, X⟩) := Lib.hid ((TxOk.of_own ho7).mono (by omega))
                  have HJ7 : Hid (OwnB w7 G (some ⟨g, 0, none⟩) L c' (putsK [f, tl, stashB orig stash] f V j)) := Lib.hid (HJF.out.below hb67 (Nat.le_refl _))
                  have HG7 : Hid (Ws.grownBy w7 (some g)) := Lib.hid ⟨hb67.os.trans HJG.out.os, hb67.tape.trans HJG.out.tape, hb67.output.trans HJG.out.output, Nat.le_trans hWx hb67.size, fun i hi hne => (hb67.block i (by omega)).trans (HJG.out.block i hi hne)⟩
                  have b0 : w7.cell? ⟨wr.heap.size, 0, none⟩ = some (.int .i64 blk) := (hb7.cell (p := ⟨wr.heap.size, 0, none⟩) hvb).trans HB0.out
                  have hv7 : wr.heap.size < w7.heap.size := by have := hb7.size; omega
                  obtain ⟨o, ho⟩ : ∃ o : Nat, 64 * blk = (o : Int) := ⟨(64 * blk).toNat, by omega⟩
                  have hoe : (64 * blk).toNat = o := by omega
                  rw [hoe] at HPN
                  have hw64 : IntKind.i64.wrap (64 * blk) = (o : Int) := by rw [IntWalk.i64_in _ (by omega)]; exact ho
                  have hoL : o + X.length ≤ L := by omega
                  have hXL : X.length ≤ 64 := z2
                  have HB07 := Lib.hid b0
                  have HXL := Lib.hid hX
                  clear ho7 hb7 hb67 HTX HRP HSRC HB6 HB0 HJF HJG ho hoe z0 z1 z2 z3 z4 b0 hX hvb
                  go_wp2_with fail
                  generalize hvbe : wr.heap.size = vb at *
                  have hWv : Ws.heap.size ≤ vb := hWx
                  clear hvbe hWx
                  go_loopw [17] (fun i wx => ∃ q : Nat, q ≤ X.length ∧ i = .int .i64 q ∧ Hid (w7.grownBy wx (some g) ∧ OwnB wx G (some ⟨g, 0, none⟩) L c' (splB (putsK [f, tl, stashB orig stash] f V j) o (X.take q)))) (fun i _ => X.length - (intOf i).toNat)
                  case atStart => exact ⟨0, Nat.zero_le _, rfl, Lib.hid ⟨World.grownBy.refl _ _, by rw [List.take_zero, splB_nil]; exact HJ7.out⟩⟩
                  case round =>
                    obtain ⟨q, hq, rfl, HK⟩ := hrel
                    by_cases hlq : q < X.length
                    · obtain ⟨x, hx⟩ := Sc.get_some X q hlq
                      obtain ⟨bb, bo, rfl, hbb, d0⟩ := HTB.out.rd q x hx
                      have hbbB := (HTB.out.ty bb (inA_some.2 rfl)).1
                      have b0 : wr.cell? ⟨vb, 0, none⟩ = some (.int .i64 blk) := (HK.out.1.cell_far ⟨vb, 0, none⟩ hv7 (by simp only; intro e; injection e with e; omega)).trans HB07.out
                      have d1 : wr.cell? ⟨bb, bo + q, none⟩ = some (.int .u8 x) := (HK.out.1.cell_far ⟨bb, bo + q, none⟩ hbb (by simp only; intro e; injection e with e; omega)).trans d0
                      obtain ⟨pp, hpp⟩ : ∃ pp : Nat, pp = o + q := ⟨_, rfl⟩
                      have hstep := splB_step (f := putsK [f, tl, stashB orig stash] f V j) (o := o) hx (by rw [HJ7.out.1]; omega)
                      have hset := OwnB.setAt (HK.out.2.drewN 1) (i := o + q) (by omega) x
                      rw [hstep, ← hpp] at hset
                      obtain ⟨_, hgw7, hLc, _, cur, hcur, hcs⟩ := OwnB.block HK.out.2
                      obtain ⟨oldv, hold⟩ : ∃ u, cur[pp]? = some u := ⟨_, Array.getElem?_eq_getElem (by omega)⟩
                      have f0 : wr.cell? ⟨g, pp, none⟩ = some oldv := (cell_of_row wr g (pp) cur 5 (0, 0) hcur).trans hold
                      have f1 : wr.frozen? ⟨g, pp, none⟩ = false := frozen_of_row wr g (pp) cur 5 hcur
                      have hwq : IntKind.i64.wrap ((o : Int) + (q : Int)) = (pp : Int) := by rw [IntWalk.i64_in _ (by omega)]; omega
                      have j0 : (0 : Int) ≤ (q : Int) := by omega
                      have j1 : (q : Int) < (X.length : Int) := by omega
                      have j2 : (0 : Int) ≤ (pp : Int) := by omega
                      have j3 : (pp : Int) < (L : Int) := by omega
                      have hne1 : vb ≠ g := by omega
                      have hne2 : bb ≠ g := by omega
                      have HN : Hid (w7.grownBy (wr.drew.setCell ⟨g, pp, none⟩ (.int .u8 x)) (some g) ∧ OwnB (wr.drew.setCell ⟨g, pp, none⟩ (.int .u8 x)) G (some ⟨g, 0, none⟩) L c' (splB (putsK [f, tl, stashB orig stash] f V j) o (X.take (q + 1)))) := Lib.hid ⟨⟨HK.out.1.os, HK.out.1.tape, HK.out.1.output, by simp; exact HK.out.1.size, fun i hi hne => by
                        have h1 : (wr.drew.setCell ⟨g, pp, none⟩ (.int .u8 x)).heap[i]? = wr.heap[i]? := heap_setCell_other wr.drew ⟨g, pp, none⟩ i _ (fun e => hne (by simp only at e; rw [e]))
                        exact h1.trans (HK.out.1.block i hi hne)⟩, hset⟩
                      have k0 : (wr.drew.setCell ⟨g, pp, none⟩ (.int .u8 x)).cell? ⟨vb, 0, none⟩ = some (.int .i64 blk) := (World.cell?_of_block (w := wr.drew) (a := ⟨vb, 0, none⟩) (heap_setCell_other wr.drew ⟨g, pp, none⟩ vb _ hne1)).trans b0
                      have k1 : (wr.drew.setCell ⟨g, pp, none⟩ (.int .u8 x)).cell? ⟨bb, bo + q, none⟩ = some (.int .u8 x) := (World.cell?_of_block (w := wr.drew) (a := ⟨bb, bo + q, none⟩) (heap_setCell_other wr.drew ⟨g, pp, none⟩ bb _ hne2)).trans d1
                      clear hpp hset hstep hx hcur hcs hold d0 hbb HK
                      go_wp2_with fail
                      go_region_held3 (fun w' => w'.cell? ⟨vb, 0, none⟩ = some (.int .i64 blk) ∧ w'.cell? ⟨bb, bo + q, none⟩ = some (.int .u8 x)) (first | exact ⟨b0, d1⟩ | exact ⟨k0, k1⟩ | (go_keep; done)) (fail)
                      all_goals
                        clear b0 d1 k0 k1 f0 f1
                        go_wp2_with fail
                        go_roundw
                        case measure => simp [intOf]; omega
                        case rel => exact ⟨q + 1, by omega, by go_num, HN⟩
                    · obtain rfl : q = X.length := by omega
                      clear hlq
                      have HEND : Hid (Ws.grownBy wr (some g) ∧ OwnB wr G (some ⟨g, 0, none⟩) L c' (putsK [f, tl, stashB orig stash] f V (j + 1))) := Lib.hid ⟨HG7.out.trans HK.out.1, by
                        have h := HK.out.2
                        rw [List.take_length] at h
                        rw [HPN.out]; exact h⟩
                      clear HK
                      go_wp2_with fail
                      go_roundw
                      case measure => simp [intOf]; omega
                      case rel => exact ⟨j + 1, by omega, by go_num, HEND⟩
                · obtain rfl : j = steps.length := by omega
                  clear hlj
                  have HEND : Hid (Below G W0 wr ∧ OwnB wr G (some ⟨g, 0, none⟩) L c' (fileW ⟨n, stash, waves.map WvV.wv⟩ orig tl (k + 1))) := Lib.hid ⟨(HBI.out.trans (HB5.out.mono hGw)).trans (below_of_grown HJ.out.1 hgG (by omega)), by
                    have h := HJ.out.2
                    rw [← HVL.out, putsK_all] at h
                    rw [HFN.out]; exact h⟩
                  clear HJ
                  go_wp2_with fail
                  go_roundw
                  case measure => simp [intOf]; omega
                  case rel => exact ⟨k + 1, by omega, by go_num, HEND⟩
            · obtain rfl : k = waves.length := by omega
              clear hlt hk
              have e0 : wr.cell? ⟨pb, 0, none⟩ = some (.int .i64 n) := cell_of_row _ _ 0 _ 32 (0, 0) ((HI.out.1.block pb (by omega)).trans HXW.out)
              obtain ⟨N, rfl⟩ := Int.eq_ofNat_of_zero_le hn0
              have HEND : Hid (OwnB wr pb A' N c' (runF ⟨(N : Int), stash, waves.map WvV.wv⟩ orig tl) ∧ Below pb w wr) := Lib.hid ⟨by
                have h := (OwnB.shrink HI.out.2 N (by omega)).mono (show pb ≤ G by omega)
                have e : fileW ⟨(N : Int), stash, waves.map WvV.wv⟩ orig tl waves.length = fileF ⟨(N : Int), stash, waves.map WvV.wv⟩ orig tl := by
                  rw [← fileW_all]; simp
                rw [e] at h
                unfold runF
                simpa using h, HBW.out.trans (HI.out.1.mono (by omega))⟩
              have hNc : (N : Int) ≤ (c' : Int) := by omega
              have hNn : (0 : Int) ≤ (N : Int) := hn0
              have HNO := Lib.hid (Sc.OwnB.none HI.out.2)
              clear HI
              rcases A' with _ | ⟨g, off, s⟩
              · obtain ⟨h1, h2⟩ := HNO.out rfl
                subst h1; subst h2
                obtain rfl : N = 0 := by omega
                go_wp2_with fail
                go_ret
                obtain rfl := HPB.out
                exact ⟨⟨_, _, _, rfl, HEND.out.1⟩, HEND.out.2⟩
              · go_wp2_with fail
                go_ret
                obtain rfl := HPB.out
                exact ⟨⟨_, _, _, rfl, HEND.out.1⟩, HEND.out.2⟩
end Go.Proofs.Yteceephenfmdoaa
