/-
  What moved answers: a step's parts, those that are stashed taken from there, joined.
-/
import Derived.Test.YteceephenfmdoaaKMoved
import Derived.Test.YteceephenfmdoaaMSmall
import Derived.Test.YteceephenfmdoaaSA
import Derived.BigQuiet
import Derived.Deep.Cut
namespace Go.Proofs.Yteceephenfmdoaa
open Go.RowKit
def mvG (x : S) (l : List R) : List S × Int × Int := if x.src = 0 then mvF x l else ([], 0, x.at_)
theorem mvG_yes {x : S} (h : x.src = 0) (l : List R) : mvG x l = mvF x l := if_pos h
theorem mvG_no {x : S} (h : x.src ≠ 0) (l : List R) : mvG x l = ([], 0, x.at_) := if_neg h
theorem mvO_eq (x : S) (hx : Sc.okS x) (l : List R) : mvO l x = (mvG x l).1 ++ mvT x (mvG x l).2.2 := by
  unfold mvO mvG
  by_cases h : x.src = 0
  · rw [if_pos h, if_pos h]
  · rw [if_neg h, if_neg h]
    unfold Sc.okS at hx
    obtain ⟨src, a, n⟩ := x
    simp only [mvT, List.nil_append]
    simp only at hx
    rw [if_pos (by omega)]
    congr 2
    omega
theorem mvF_len (x : S) (hx : Sc.okS x) {stash : List R} (hR : Right stash) (hT : tot stash ≤ 1048576) {j : Nat} (hj : j ≤ stash.length) : ((mvF x (stash.take j)).1.length : Int) ≤ x.len := by
  have I := mv_inv x hx hR hT j hj
  have h1 := Sc.len_le_tot _ I.ok
  have h2 := Sc.bts_length I.ok
  rw [I.bt, List.length_map, Sc.sb_length] at h2
  have := I.lo; have := I.hi
  simp only at h2
  omega
theorem mvF_zero (x : S) (stash : List R) : mvF x (stash.take 0) = ([], 0, x.at_) := rfl
theorem mv_pre_len {parts : List S} (hp : Sc.MayP parts) {stash : List R} (hR : Right stash) (hT : tot stash ≤ 1048576) {i : Nat} {x : S} (hx : parts[i]? = some x) : (((parts.take i).flatMap (mvO stash)).length : Int) + x.len ≤ 1099511627776 := by
  obtain ⟨h1, h2⟩ := flat_mv (hp.1.take i) hR hT
  have h3 := Sc.len_le_tot _ h1
  have h4 := Sc.bts_length h1
  have h5 := Sc.bts_length (hp.1.take i)
  rw [h2, List.length_map] at h4
  have h6 := Sc.tot_take_succ parts i x hx
  have h7 := Sc.tot_take_le parts hp.1 (i + 1)
  have := hp.2
  omega
/-- A box beside a row of the call's own, behind an append. -/
theorem box_step {wr W0 w1 : World} {A : Option Addr} {n c vb : Nat} {v' : Value} {o : Obj} (hne : (Value.slice A n c).ownBlock ≠ some vb) (hx : wr.heap[vb]? = some o) (hW : Below wr.heap.size wr W0) (hg : W0.grownBy w1 (Value.slice A n c).ownBlock)
    {z : Nat} (hbl : v'.ownBlock = (Value.slice A n c).ownBlock ∨ v'.ownBlock = some z) (hz : wr.heap.size ≤ z := by omega) : w1.heap[vb]? = some o ∧ v'.ownBlock ≠ some vb := by
  have hlt := (Array.getElem?_eq_some_iff.1 hx).1
  have hsz := hW.size
  refine ⟨((hg.block vb (by omega) (fun e => hne e.symm)).trans (hW.block vb hlt)).trans hx, fun h => ?_⟩
  rcases hbl with h2 | h2
  · exact hne (h2.symm.trans h)
  · rw [h2] at h
    injection h with h
    omega
theorem own_ne_new {w : World} {base n c : Nat} {A : Option Addr} {l : List S} (h : Sc.Own w base A n c l) : (Value.slice A n c).ownBlock ≠ some w.heap.size := fun e => by have := h.2.lt _ e; omega
theorem own_ne_ty {w : World} {base : Nat} {A : Option Addr} {n c : Nat} {l : List S} (h : Sc.Own w base A n c l) {b : Nat} {cs : Array Value} {T : TypeId} {p : Nat × Nat} (hb : w.heap[b]? = some (.cells cs T p)) (hT : T ≠ 48 := by decide) : (Value.slice A n c).ownBlock ≠ some b := by
  rcases h.2.2 with ⟨hv, _⟩ | ⟨g, cap', cur, hv, _, hg, _⟩
  · rw [hv]; simp [Value.ownBlock]
  · rw [hv]
    simp only [Value.ownBlock, ne_eq, Option.some.injEq]
    rintro rfl
    rw [hg] at hb
    injection hb with hb
    injection hb with _ hb
    exact hT hb.symm
theorem own_len {w : World} {base : Nat} {A : Option Addr} {n c : Nat} {l : List S} (h : Sc.Own w base A n c l) : n = l.length := h.1.symm
theorem tot_take_le {l : List R} (hR : Right l) (j : Nat) : tot (l.take j) ≤ tot l := by
  have e : l = l.take j ++ l.drop j := (List.take_append_drop _ _).symm
  have h1 : RightF (lastTo (-1) (l.take j)) (l.drop j) := ((right_append _ _ _).1 (by rw [← e]; exact hR)).2
  have h2 := (tot_le _ _ h1).1
  have h3 : ∀ (a b : List R), tot (a ++ b) = tot a + tot b := by
    intro a b; induction a with
    | nil => simp [tot]
    | cons q a ih => simp only [List.cons_append, tot, ih]; omega
  have h4 := h3 (l.take j) (l.drop j)
  rw [← e] at h4; omega
set_option maxRecDepth 100000 in
set_option maxHeartbeats 4000000 in
theorem moved_any (PA : Option Addr) (pn pc : Nat) (parts : List S) (SA : Option Addr) (sn sc : Nat) (stash : List R) (w : World) (hp : parts.length = pn) (hr : Sc.Rd w w.heap.size PA parts) (hM : Sc.MayP parts)
    (hs : stash.length = sn) (hrs : Rd w w.heap.size SA stash) (hR : Right stash) (hT : tot stash ≤ 1048576) (hS : ∀ r ∈ stash, r.2 ≤ 1048576) :
    Calls Try.prog 65 #[.slice PA pn pc, .slice SA sn sc] w fun e w' => (∃ A n c, e = .returned (.slice A n c) ∧ Sc.Own w' w.heap.size A n c (movedL parts stash)) ∧ Below w.heap.size w w' := by
  obtain ⟨i0, hi, hz0, hz1, hz2⟩ := info_parts Sc.info31
  have HRP := Lib.hid hr; have HRS := Lib.hid hrs; have HM := Lib.hid hM; have HP := Lib.hid hp; have HS := Lib.hid hs; have HR := Lib.hid hR; have HSS := Lib.hid hS
  have HPL : Hid ((parts.length : Int) ≤ 1099511627776) := Lib.hid (by have := Sc.len_le_tot _ hM.1; have := hM.2; omega)
  have hpn : pn ≤ 1099511627776 := by have := HPL.out; omega
  have HSL : Hid (stash.length ≤ 1048576) := Lib.hid (by
    have h1 : ∀ (l : List R) a, RightF a l → (l.length : Int) ≤ tot l := by
      intro l
      induction l with
      | nil => intro a _; simp [tot]
      | cons r l ih => intro a h; have := ih _ h.2.2; have := h.2.1; simp only [List.length_cons, tot]; omega
    have := h1 stash (-1) hR; omega)
  have hsn : sn ≤ 1048576 := by have := HSL.out; omega
  clear hr hrs hM hp hs hR hS HPL HSL
  go_enter Try.func65, Try.ntmps65
  go_wp2_with fail
  generalize hBB : w.heap.size = BB at *
  have HBB := Lib.hid hBB
  clear hBB
  go_loopw [5, 16] (fun v i wr => ∃ (k : Nat) (A : Option Addr) (n c : Nat), k ≤ pn ∧ i = .int .i64 k ∧ v = .slice A n c ∧ Hid (Sc.Own wr BB A n c ((parts.take k).flatMap (mvO stash)) ∧ Below BB w wr)) (fun _ i _ => pn - (intOf i).toNat)
  case atStart => exact ⟨0, _, _, _, Nat.zero_le _, rfl, rfl, Lib.hid ⟨Sc.Own.nil _ _, Below.refl _ _⟩⟩
  case round =>
    obtain ⟨k, A, n, c, hk, rfl, rfl, HI⟩ := hrel
    have hsz : BB ≤ wr.heap.size := by have := HI.out.2.size; have := HBB.out; omega
    by_cases hlt : k < pn
    · obtain ⟨x, hx⟩ := get_some parts k (by have := HP.out; omega)
      obtain ⟨b, off, rfl, hbb, c0, c1, c2⟩ := (HRP.out.below HI.out.2 (by have := HBB.out; omega)) k x hx
      have htk := Sc.take_snoc parts k x hx
      have hxok := HM.out.1 x (List.mem_of_getElem? hx)
      have HXK := Lib.hid hxok
      have hpre := mv_pre_len HM.out HR.out hT hx
      have hnl := Nat.le_of_eq (own_len HI.out.1)
      unfold Sc.okS at hxok
      have HNX : Hid ((parts.take (k + 1)).flatMap (mvO stash) = (parts.take k).flatMap (mvO stash) ++ ((mvG x stash).1 ++ mvT x (mvG x stash).2.2)) := Lib.hid (by rw [htk, List.flatMap_append, ← mvO_eq x HXK.out]; simp)
      clear hx htk
      generalize hpr : (parts.take k).flatMap (mvO stash) = pre at *
      clear hpr
      have q1 : IntKind.i64.wrap (x.at_ + x.len) = x.at_ + x.len := IntWalk.i64_in _ (by omega)
      go_upto_block 2 with (fail)
      have HX0 : Hid ((wr.alloc (.cells #[.int .i64 x.src, .int .i64 x.at_, .int .i64 x.len] 48)).heap[wr.heap.size]? = some (.cells #[.int .i64 x.src, .int .i64 x.at_, .int .i64 x.len] 48 (0, 0))) := Lib.hid (heap_alloc_new wr _)
      have HNE : Hid ((Value.slice A n c).ownBlock ≠ some wr.heap.size) := Lib.hid (own_ne_new HI.out.1)
      have HO0 := Lib.hid (HI.out.1.alloc (.cells #[.int .i64 x.src, .int .i64 x.at_, .int .i64 x.len] 48))
      have HB0 := Lib.hid (HI.out.2.alloc hsz (.cells #[.int .i64 x.src, .int .i64 x.at_, .int .i64 x.len] 48))
      have hsz0 : BB ≤ (wr.alloc (.cells #[.int .i64 x.src, .int .i64 x.at_, .int .i64 x.len] 48)).heap.size := by simp; omega
      clear HI c0 c1 c2 hsz
      generalize hvb : wr.heap.size = vb at *
      generalize wr.alloc (.cells #[.int .i64 x.src, .int .i64 x.at_, .int .i64 x.len] 48) = W0 at *
      clear hvb wr
      go_cut [5, 9] (fun v a wx => ∃ (A : Option Addr) (n c : Nat), v = .slice A n c ∧ a = .int .i64 (mvG x stash).2.2 ∧ Hid (Sc.Own wx BB A n c (pre ++ (mvG x stash).1) ∧ Below BB w wx ∧ wx.heap[vb]? = some (.cells #[.int .i64 x.src, .int .i64 x.at_, .int .i64 x.len] 48 (0, 0))))
      case first =>
        by_cases hs0 : x.src = 0
        · have f1 : (x.src == 0) = true := by simpa using hs0
          have f2 : (x.src != 0) = false := by simpa using hs0
          have HS0 := Lib.hid hs0
          clear hs0 HNX
          go_wp2_with fail
          go_loopw [5, 8, 9, 24] (fun v ah a j wx => ∃ (j' : Nat) (A : Option Addr) (n c : Nat), j' ≤ sn ∧ j = .int .i64 j' ∧ ah = .int .i64 (mvF x (stash.take j')).2.1 ∧ a = .int .i64 (mvF x (stash.take j')).2.2 ∧ v = .slice A n c ∧ Hid (Sc.Own wx BB A n c (pre ++ (mvF x (stash.take j')).1) ∧ (Value.slice A n c).ownBlock ≠ some vb ∧ Below BB w wx ∧ wx.heap[vb]? = some (.cells #[.int .i64 x.src, .int .i64 x.at_, .int .i64 x.len] 48 (0, 0)))) (fun _ _ _ j _ => sn - (intOf j).toNat)
          case atStart => exact ⟨0, A, n, c, Nat.zero_le _, rfl, by rw [mvF_zero], by rw [mvF_zero], rfl, Lib.hid ⟨by rw [mvF_zero, List.append_nil]; exact HO0.out, HNE.out, HB0.out, HX0.out⟩⟩
          case round =>
            clear HO0 HNE HB0 HX0 hsz0 hnl
            obtain ⟨j, A, n, c, hj, rfl, rfl, rfl, rfl, HJ⟩ := hrel
            have hI := mv_inv x HXK.out HR.out hT j (by have := HS.out; omega)
            have hFL := mvF_len x HXK.out HR.out hT (j := j) (by have := HS.out; omega)
            have hn : n ≤ (pre ++ (mvF x (stash.take j)).1).length := Nat.le_of_eq (own_len HJ.out.1)
            have hsz : BB ≤ wr.heap.size := by have := HJ.out.2.2.1.size; have := HBB.out; omega
            rw [List.length_append] at hn
            have v0 : wr.cell? ⟨vb, 0, none⟩ = some (.int .i64 x.src) := cell_of_row _ _ 0 _ 48 (0, 0) HJ.out.2.2.2
            have v1 : wr.cell? ⟨vb, 1, none⟩ = some (.int .i64 x.at_) := cell_of_row _ _ 1 _ 48 (0, 0) HJ.out.2.2.2
            have v2 : wr.cell? ⟨vb, 2, none⟩ = some (.int .i64 x.len) := cell_of_row _ _ 2 _ 48 (0, 0) HJ.out.2.2.2
            have nv := World.new_ne wr _ v0
            by_cases hlj : j < sn
            · obtain ⟨r, hrj⟩ := get_some stash j (by have := HS.out; omega)
              obtain ⟨b2, off2, rfl, hb2, d0, d1⟩ := (HRS.out.below HJ.out.2.2.1 (by have := HBB.out; omega)) j r hrj
              have hrn := right_mem HR.out (List.mem_of_getElem? hrj)
              have hrs := HSS.out r (List.mem_of_getElem? hrj)
              have HNXT := Lib.hid (mvF_next x hrj)
              have hT2 := tot_take_le HR.out j
              have HSTOP := Lib.hid (fun h => mvF_stop x HR.out hrj h)
              have hah : 0 ≤ (mvF x (stash.take j)).2.1 ∧ (mvF x (stash.take j)).2.1 ≤ 1048576 := by
                rw [hI.ahead]
                have := (right_tot (right_take HR.out j)).1
                exact ⟨this, by omega⟩
              have hlo := hI.lo; have hhi := hI.hi
              clear hrj hI hT2
              generalize hs0' : mvF x (stash.take j) = s0 at *
              obtain ⟨o, ah, a⟩ := s0
              simp only at hlo hhi hah hn hFL
              have HS0' := Lib.hid hs0'
              clear hs0'
              go_upto_region 10 with (fail)
              have hbA : Below wr.heap.size wr (wr.alloc (.cells #[.int .i64 r.1, .int .i64 r.2] 67)) := (Below.refl _ _).alloc (Nat.le_refl _) _
              have HOA := Lib.hid (HJ.out.1.alloc (.cells #[.int .i64 r.1, .int .i64 r.2] 67))
              have HBA := Lib.hid (HJ.out.2.2.1.alloc hsz (.cells #[.int .i64 r.1, .int .i64 r.2] 67))
              have HXA := Lib.hid ((hbA.block _ (Array.getElem?_eq_some_iff.1 HJ.out.2.2.2).1).trans HJ.out.2.2.2)
              have HRA : Hid ((wr.alloc (.cells #[.int .i64 r.1, .int .i64 r.2] 67)).heap[wr.heap.size]? = some (.cells #[.int .i64 r.1, .int .i64 r.2] 67 (0, 0))) := Lib.hid (heap_alloc_new wr _)
              have hszA : BB ≤ (wr.alloc (.cells #[.int .i64 r.1, .int .i64 r.2] 67)).heap.size := by simp; omega
              have HNA := Lib.hid HJ.out.2.1
              generalize hrb : wr.heap.size = rb at *
              generalize wr.alloc (.cells #[.int .i64 r.1, .int .i64 r.2] 67) = WA at *
              clear HJ v0 v1 v2 nv hbA d0 d1 hsz hrb
              have v0 : WA.cell? ⟨vb, 0, none⟩ = some (.int .i64 x.src) := cell_of_row _ _ 0 _ 48 (0, 0) HXA.out
              have v1 : WA.cell? ⟨vb, 1, none⟩ = some (.int .i64 x.at_) := cell_of_row _ _ 1 _ 48 (0, 0) HXA.out
              have v2 : WA.cell? ⟨vb, 2, none⟩ = some (.int .i64 x.len) := cell_of_row _ _ 2 _ 48 (0, 0) HXA.out
              have e0 : WA.cell? ⟨rb, 0, none⟩ = some (.int .i64 r.1) := cell_of_row _ _ 0 _ 67 (0, 0) HRA.out
              have e1 : WA.cell? ⟨rb, 1, none⟩ = some (.int .i64 r.2) := cell_of_row _ _ 1 _ 67 (0, 0) HRA.out
              by_cases hge : x.at_ + x.len ≤ r.1
              · have HE : Hid ((mvG x stash).1 = o ∧ (mvG x stash).2.2 = a) := Lib.hid (by
                  rw [mvG_yes HS0.out]
                  have h := HSTOP.out hge
                  exact h)
                clear HSTOP
                go_wp2_with fail
                go_meet
                exact ⟨A, n, c, rfl, by rw [HE.out.2], Lib.hid ⟨by rw [HE.out.1]; exact HOA.out, HBA.out, HXA.out⟩⟩
              · have hlt2 : r.1 < x.at_ + x.len := by omega
                clear HSTOP hge
                go_upto_region 11 with (fail)
                go_quiet (fail)
                generalize hf : max r.1 a = f at *
                generalize ht : min r.2 (x.at_ + x.len) = tt at *
                have HOD := Lib.hid (HOA.out.drewN nq)
                have HBD := Lib.hid (belowDrewN HBA.out nq)
                have HXD : Hid ((WA.drewN nq).heap[vb]? = _) := Lib.hid HXA.out
                have HRD : Hid ((WA.drewN nq).heap[rb]? = _) := Lib.hid HRA.out
                have hszD : BB ≤ (WA.drewN nq).heap.size := hszA
                clear HOA HBA HXA HRA hszA v0 v1 v2 e0 e1
                generalize WA.drewN nq = WD at *
                have e0 : WD.cell? ⟨rb, 0, none⟩ = some (.int .i64 r.1) := cell_of_row _ _ 0 _ 67 (0, 0) HRD.out
                have e1 : WD.cell? ⟨rb, 1, none⟩ = some (.int .i64 r.2) := cell_of_row _ _ 1 _ 67 (0, 0) HRD.out
                have HND := Lib.hid (own_ne_ty HOD.out HRD.out)
                have q2 : IntKind.i64.wrap (r.2 - r.1) = r.2 - r.1 := IntWalk.i64_in _ (by omega)
                have q3 : IntKind.i64.wrap (ah + (r.2 - r.1)) = ah + (r.2 - r.1) := IntWalk.i64_in _ (by omega)
                by_cases hft : f < tt
                · have q4 : IntKind.i64.wrap (ah + f) = ah + f := IntWalk.i64_in _ (by omega)
                  have q5 : IntKind.i64.wrap (ah + f - r.1) = ah + f - r.1 := IntWalk.i64_in _ (by omega)
                  have q6 : IntKind.i64.wrap (tt - f) = tt - f := IntWalk.i64_in _ (by omega)
                  by_cases haf : a < f
                  · have HM2 : Hid (mvF x (stash.take (j + 1)) = (o ++ ([⟨0, a, f - a⟩] ++ [⟨2, ah + f - r.1, tt - f⟩]), ah + (r.2 - r.1), tt)) := Lib.hid (by
                      rw [HNXT.out]
                      unfold mst
                      simp only
                      rw [hf, ht, if_pos hft, if_pos haf])
                    have q7 : IntKind.i64.wrap (f - a) = f - a := IntWalk.i64_in _ (by omega)
                    go_wp2_with (at_builtin; refine wpList_append_block rfl (.tmp 59) (.tmp 65) 26 rfl BB 48 i0 _ 3 24 Try.underlying26 hi hz0 hz1 hz2 rfl (by decide) _ _ _ rfl (HOD.out.alloc _).2 ⟨WD.heap.size, 0, none⟩ 1 1 (Sc.cells [⟨0, a, f - a⟩]) rfl rfl (Sc.new_one _ ⟨0, a, f - a⟩ _ rfl) (Sc.cells_one_cell _) (by unfold maxLen; omega) (by omega) (by simp; omega) ?_)
                    intro v' w4 hown' hgrow hblk
                    have HBX := Lib.hid (box_step HNA.out HXD.out ((Below.refl WD.heap.size WD).alloc (Nat.le_refl _) _) hgrow hblk)
                    have HBR := Lib.hid (box_step HND.out HRD.out ((Below.refl WD.heap.size WD).alloc (Nat.le_refl _) _) hgrow hblk)
                    obtain ⟨⟨A8, c8, hv, hown2⟩, hb3, _, _, _⟩ := Sc.app_step HOD.out HBD.out hszD ((Below.refl _ _).alloc (Nat.le_refl _) _) hown' hgrow
                    rw [hv] at HBX HBR ⊢
                    have HO4 : Hid (Sc.Own w4 BB A8 (n + 1) c8 (pre ++ (o ++ [⟨0, a, f - a⟩]))) := Lib.hid (by rw [← List.append_assoc]; exact hown2)
                    have HB4 := Lib.hid hb3
                    have hsz4 : BB ≤ w4.heap.size := by have := hb3.size; have := HBB.out; omega
                    have e0' : w4.cell? ⟨rb, 0, none⟩ = some (.int .i64 r.1) := cell_of_row _ _ 0 _ 67 (0, 0) HBR.out.1
                    have e1' : w4.cell? ⟨rb, 1, none⟩ = some (.int .i64 r.2) := cell_of_row _ _ 1 _ 67 (0, 0) HBR.out.1
                    clear hgrow hown' hv hown2 hb3 hblk e0 e1
                    go_wp2_with (at_builtin; refine wpList_append_block rfl (.tmp 67) (.tmp 78) 26 rfl BB 48 i0 _ 3 24 Try.underlying26 hi hz0 hz1 hz2 rfl (by decide) _ _ _ rfl (HO4.out.alloc _).2 ⟨w4.heap.size, 0, none⟩ 1 1 (Sc.cells [⟨2, ah + f - r.1, tt - f⟩]) rfl rfl (Sc.new_one _ ⟨2, ah + f - r.1, tt - f⟩ _ rfl) (Sc.cells_one_cell _) (by unfold maxLen; omega) (by omega) (by simp; omega) ?_)
                    intro v' w5 hown' hgrow hblk
                    have HBX2 := Lib.hid (box_step HBX.out.2 HBX.out.1 ((Below.refl w4.heap.size w4).alloc (Nat.le_refl _) _) hgrow hblk)
                    have HBR2 := Lib.hid (box_step HBR.out.2 HBR.out.1 ((Below.refl w4.heap.size w4).alloc (Nat.le_refl _) _) hgrow hblk)
                    obtain ⟨⟨A9, c9, hv, hown2⟩, hb3, _, _, _⟩ := Sc.app_step HO4.out HB4.out hsz4 ((Below.refl _ _).alloc (Nat.le_refl _) _) hown' hgrow
                    rw [hv] at HBX2 HBR2 ⊢
                    have HO5 := Lib.hid hown2
                    have HB5 := Lib.hid hb3
                    have f0' : w5.cell? ⟨rb, 0, none⟩ = some (.int .i64 r.1) := cell_of_row _ _ 0 _ 67 (0, 0) HBR2.out.1
                    have f1' : w5.cell? ⟨rb, 1, none⟩ = some (.int .i64 r.2) := cell_of_row _ _ 1 _ 67 (0, 0) HBR2.out.1
                    clear hgrow hown' hv hown2 hb3 hblk e0' e1'
                    go_wp2_with fail
                    go_roundw
                    case measure => simp [intOf]; omega
                    case rel => exact ⟨j + 1, A9, n + 1 + 1, c9, by omega, by go_num, by rw [HM2.out], by rw [HM2.out], rfl, Lib.hid ⟨by rw [HM2.out]; have := HO5.out; simpa using this, HBX2.out.2, HB5.out, HBX2.out.1⟩⟩
                  · have HM2 : Hid (mvF x (stash.take (j + 1)) = (o ++ [⟨2, ah + f - r.1, tt - f⟩], ah + (r.2 - r.1), tt)) := Lib.hid (by
                      rw [HNXT.out]
                      unfold mst
                      simp only
                      rw [hf, ht, if_pos hft, if_neg haf]
                      rfl)
                    go_wp2_with (at_builtin; refine wpList_append_block rfl (.tmp 67) (.tmp 78) 26 rfl BB 48 i0 _ 3 24 Try.underlying26 hi hz0 hz1 hz2 rfl (by decide) _ _ _ rfl (HOD.out.alloc _).2 ⟨WD.heap.size, 0, none⟩ 1 1 (Sc.cells [⟨2, ah + f - r.1, tt - f⟩]) rfl rfl (Sc.new_one _ ⟨2, ah + f - r.1, tt - f⟩ _ rfl) (Sc.cells_one_cell _) (by unfold maxLen; omega) (by omega) (by simp; omega) ?_)
                    intro v' w4 hown' hgrow hblk
                    have HBX := Lib.hid (box_step HNA.out HXD.out ((Below.refl WD.heap.size WD).alloc (Nat.le_refl _) _) hgrow hblk)
                    have HBR := Lib.hid (box_step HND.out HRD.out ((Below.refl WD.heap.size WD).alloc (Nat.le_refl _) _) hgrow hblk)
                    obtain ⟨⟨A8, c8, hv, hown2⟩, hb3, _, _, _⟩ := Sc.app_step HOD.out HBD.out hszD ((Below.refl _ _).alloc (Nat.le_refl _) _) hown' hgrow
                    rw [hv] at HBX HBR ⊢
                    have HO4 := Lib.hid hown2
                    have HB4 := Lib.hid hb3
                    have e0' : w4.cell? ⟨rb, 0, none⟩ = some (.int .i64 r.1) := cell_of_row _ _ 0 _ 67 (0, 0) HBR.out.1
                    have e1' : w4.cell? ⟨rb, 1, none⟩ = some (.int .i64 r.2) := cell_of_row _ _ 1 _ 67 (0, 0) HBR.out.1
                    clear hgrow hown' hv hown2 hb3 hblk e0 e1
                    go_wp2_with fail
                    go_roundw
                    case measure => simp [intOf]; omega
                    case rel => exact ⟨j + 1, A8, n + 1, c8, by omega, by go_num, by rw [HM2.out], by rw [HM2.out], rfl, Lib.hid ⟨by rw [HM2.out]; have := HO4.out; simpa using this, HBX.out.2, HB4.out, HBX.out.1⟩⟩
                · have HM2 : Hid (mvF x (stash.take (j + 1)) = (o, ah + (r.2 - r.1), a)) := Lib.hid (by
                    rw [HNXT.out]
                    unfold mst
                    simp only
                    rw [hf, ht, if_neg hft])
                  go_wp2_with fail
                  go_roundw
                  case measure => simp [intOf]; omega
                  case rel => exact ⟨j + 1, A, n, c, by omega, by go_num, by rw [HM2.out], by rw [HM2.out], rfl, Lib.hid ⟨by rw [HM2.out]; exact HOD.out, HNA.out, HBD.out, HXD.out⟩⟩
            · obtain rfl : j = sn := by omega
              have HE : Hid (mvG x stash = mvF x (stash.take j)) := Lib.hid (by rw [mvG_yes HS0.out, List.take_of_length_le (Nat.le_of_eq HS.out)])
              clear hlj hI hFL
              go_wp2_with fail
              go_meet
              exact ⟨A, n, c, rfl, by rw [HE.out], Lib.hid ⟨by rw [HE.out]; exact HJ.out.1, HJ.out.2.2⟩⟩
        · have f1 : (x.src == 0) = false := by simpa using hs0
          have f2 : (x.src != 0) = true := by simpa using hs0
          have HE : Hid (mvG x stash = ([], 0, x.at_)) := Lib.hid (mvG_no hs0 stash)
          clear hs0 HNX
          go_wp2_with fail
          go_loopw [5, 8, 9, 24] (fun v ah a j wx => v = .slice A n c ∧ ah = .int .i64 0 ∧ a = .int .i64 x.at_ ∧ j = .int .i64 0 ∧ wx = W0) (fun _ _ _ _ _ => 0)
          case atStart => exact ⟨rfl, rfl, rfl, rfl, rfl⟩
          case round =>
            obtain ⟨rfl, rfl, rfl, rfl, rfl⟩ := hrel
            by_cases hlj : 0 < sn
            · obtain ⟨r, hrj⟩ := get_some stash 0 (by have := HS.out; omega)
              obtain ⟨b2, off2, rfl, hb2, d0, d1⟩ := (HRS.out.below HB0.out (by have := HBB.out; omega)) 0 r hrj
              simp only [Nat.zero_mul, Nat.add_zero] at d0 d1
              clear hrj
              go_upto_region 10 with (fail)
              have hbA : Below wr.heap.size wr (wr.alloc (.cells #[.int .i64 r.1, .int .i64 r.2] 67)) := (Below.refl _ _).alloc (Nat.le_refl _) _
              have HXA := Lib.hid ((hbA.block _ (Array.getElem?_eq_some_iff.1 HX0.out).1).trans HX0.out)
              have HOA := Lib.hid (HO0.out.alloc (.cells #[.int .i64 r.1, .int .i64 r.2] 67))
              have HBA := Lib.hid (HB0.out.alloc hsz0 (.cells #[.int .i64 r.1, .int .i64 r.2] 67))
              generalize wr.alloc (.cells #[.int .i64 r.1, .int .i64 r.2] 67) = WA at *
              have v0 : WA.cell? ⟨vb, 0, none⟩ = some (.int .i64 x.src) := cell_of_row _ _ 0 _ 48 (0, 0) HXA.out
              clear hbA d0 d1
              go_wp2_with fail
              go_meet
              exact ⟨A, n, c, rfl, by rw [HE.out], Lib.hid ⟨by rw [HE.out, List.append_nil]; exact HOA.out, HBA.out, HXA.out⟩⟩
            · obtain rfl : sn = 0 := by omega
              clear hlj
              go_wp2_with fail
              go_meet
              exact ⟨A, n, c, rfl, by rw [HE.out], Lib.hid ⟨by rw [HE.out, List.append_nil]; exact HO0.out, HB0.out, HX0.out⟩⟩
      case rest =>
        obtain ⟨A, n, c, rfl, rfl, HC⟩ := hcut
        have v0 : wc.cell? ⟨vb, 0, none⟩ = some (.int .i64 x.src) := cell_of_row _ _ 0 _ 48 (0, 0) HC.out.2.2
        have v1 : wc.cell? ⟨vb, 1, none⟩ = some (.int .i64 x.at_) := cell_of_row _ _ 1 _ 48 (0, 0) HC.out.2.2
        have v2 : wc.cell? ⟨vb, 2, none⟩ = some (.int .i64 x.len) := cell_of_row _ _ 2 _ 48 (0, 0) HC.out.2.2
        have hszc : BB ≤ wc.heap.size := by have := HC.out.2.1.size; have := HBB.out; omega
        have hga : x.at_ ≤ (mvG x stash).2.2 ∧ (mvG x stash).2.2 ≤ x.at_ + x.len ∧ ((mvG x stash).1.length : Int) ≤ x.len := by
          by_cases h : x.src = 0
          · rw [mvG_yes h]
            have I := mv_inv x HXK.out HR.out hT stash.length (Nat.le_refl _)
            have h2 := mvF_len x HXK.out HR.out hT (Nat.le_refl stash.length)
            rw [List.take_length] at I h2
            exact ⟨I.lo, I.hi, h2⟩
          · rw [mvG_no h]
            simp only [List.length_nil]
            omega
        have hn5 : n ≤ (pre ++ (mvG x stash).1).length := Nat.le_of_eq (own_len HC.out.1)
        rw [List.length_append] at hn5
        clear HO0 HB0 HX0 HNE hsz0 hnl
        generalize mvG x stash = s0 at *
        obtain ⟨o, s1, a⟩ := s0
        simp only at hga hn5
        have q8 : IntKind.i64.wrap (x.at_ + x.len - a) = x.at_ + x.len - a := IntWalk.i64_in _ (by omega)
        by_cases hal : a < x.at_ + x.len
        · have HT2 : Hid ((parts.take (k + 1)).flatMap (mvO stash) = (pre ++ o) ++ [⟨x.src, a, x.at_ + x.len - a⟩]) := Lib.hid (by
            rw [HNX.out]
            unfold mvT
            simp only
            rw [if_pos hal, List.append_assoc])
          go_wp2_with (at_builtin; refine wpList_append_block rfl (.tmp 96) (.tmp 108) 26 rfl BB 48 i0 _ 3 24 Try.underlying26 hi hz0 hz1 hz2 rfl (by decide) _ _ _ rfl (HC.out.1.alloc _).2 ⟨wc.heap.size, 0, none⟩ 1 1 (Sc.cells [⟨x.src, a, x.at_ + x.len - a⟩]) rfl rfl (Sc.new_one _ ⟨x.src, a, x.at_ + x.len - a⟩ _ rfl) (Sc.cells_one_cell _) (by unfold maxLen; omega) (by omega) (by simp; omega) ?_)
          intro v' w4 hown' hgrow hblk
          obtain ⟨⟨A8, c8, hv, hown2⟩, hb3, _, _, _⟩ := Sc.app_step HC.out.1 HC.out.2.1 hszc ((Below.refl _ _).alloc (Nat.le_refl _) _) hown' hgrow
          rw [hv]
          have HO4 := Lib.hid hown2
          have HB4 := Lib.hid hb3
          clear hgrow hown' hv hown2 hb3 hblk v0 v1 v2
          go_wp2_with fail
          go_roundw
          case measure => simp [intOf]; omega
          case rel => exact ⟨k + 1, A8, n + 1, c8, by omega, by go_num, rfl, Lib.hid ⟨by rw [HT2.out]; exact HO4.out, HB4.out⟩⟩
        · have HT2 : Hid ((parts.take (k + 1)).flatMap (mvO stash) = pre ++ o) := Lib.hid (by
            rw [HNX.out]
            unfold mvT
            simp only
            rw [if_neg hal, List.append_nil])
          go_wp2_with fail
          go_roundw
          case measure => simp [intOf]; omega
          case rel => exact ⟨k + 1, A, n, c, by omega, by go_num, rfl, Lib.hid ⟨by rw [HT2.out]; exact HC.out.1, HC.out.2.1⟩⟩
    · obtain rfl : k = pn := by omega
      clear hlt
      have HE : Hid ((parts.take k).flatMap (mvO stash) = parts.flatMap (mvO stash)) := Lib.hid (by rw [List.take_of_length_le (Nat.le_of_eq HP.out)])
      have HFM := Lib.hid (flat_may HM.out HR.out hT)
      have hnm : n ≤ 9223372036854775807 := by
        have h1 := Sc.len_of_may HFM.out
        have hnl := own_len HI.out.1
        rw [HE.out] at hnl
        omega
      go_wp2_with fail
      refine (Sc.Join_any A n c wr _ HI.out.1.1 HI.out.1.rd hnm).mono ?_
      rintro e w2 ⟨⟨A2, n2, c2, rfl, ho2⟩, hb2⟩
      have HO2 : Hid (Sc.Own w2 BB A2 n2 c2 (movedL parts stash)) := Lib.hid (by
        have h := ho2.mono hsz
        rw [HE.out, JoinL_may HFM.out] at h
        exact h)
      have HB2 := Lib.hid (HI.out.2.trans (hb2.mono (by have := HI.out.2.size; have := HBB.out; omega)))
      clear ho2 hb2
      go_wp2_with fail
      go_ret
      obtain rfl := HBB.out
      exact ⟨⟨A2, n2, c2, rfl, HO2.out⟩, HB2.out⟩
end Go.Proofs.Yteceephenfmdoaa
