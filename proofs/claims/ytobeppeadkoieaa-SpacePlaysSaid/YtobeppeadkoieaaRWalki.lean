/-
  What the reference's Mix answers, and Right.
-/
import Derived.Test.YtobeppeadkoieaaRWalkh
namespace Go.Proofs.Ytobeppeadkoieaa.Rg
open Go.RowKit
def cW (way : Int) (x y : Bool) : Bool := if way = 0 then x || y else if way = 1 then x && y else x && !y
noncomputable def keepB (way : Int) (l m : List R) (u : Int) : Bool := cW way (hasB l u) (hasB m u)
theorem keepB_iff (way : Int) (hw : way = 0 ∨ way = 1 ∨ way = 2) (l m : List R) (u : Int) (h0 : 0 ≤ u) : keepB way l m u = true ↔ mixW way l m u := by
  have e : ∀ l, hasB l u = true ↔ In l u := fun l => hasB_iff.trans ⟨fun h => h.2, fun h => ⟨h0, h⟩⟩
  have e' : ∀ l, hasB l u = false ↔ ¬ In l u := fun l => by rw [← Bool.not_eq_true, e]
  unfold keepB cW mixW
  rcases hw with rfl | rfl | rfl
  · simp [e]
  · simp [e]
  · simp [e, e']
noncomputable def mixR (way : Int) (l m : List R) : List R := mixL (keepB way l m) l m
theorem mixR_is (way : Int) (hw : way = 0 ∨ way = 1 ∨ way = 2) (l m : List R) : Is (mixR way l m) (fun x => 0 ≤ x ∧ mixW way l m x) := mixL_is way l m _ (keepB_iff way hw l m)
theorem mix_either (l m : List R) : mixR 0 l m = eitherR l m := (mixR_is 0 (.inl rfl) l m).uniq (eitherR_is l m) fun x => by unfold mixW; simp
theorem mix_both (l m : List R) : mixR 1 l m = bothR l m := (mixR_is 1 (.inr (.inl rfl)) l m).uniq (bothR_is l m) fun x => by unfold mixW; simp
theorem mix_less (l m : List R) : mixR 2 l m = lessR l m := (mixR_is 2 (.inr (.inr rfl)) l m).uniq (lessR_is l m) fun x => by unfold mixW; simp
theorem mix_nl (l : List R) : mixR 0 l [] = nl l := (mixR_is 0 (.inl rfl) l []).uniq (nl_is l) fun x => by
  unfold mixW
  simp only [true_and]
  have := in_nil x
  simp [this]
theorem sel_last {c : Int → Bool} {M : List Int} {i : Nat} (h : M.length ≤ i + 1) : selL c (M.drop i) = [] := by
  have : (M.drop i).length ≤ 1 := by rw [List.length_drop]; omega
  match M.drop i, this with
  | [], _ => rfl
  | [u], _ => rfl
  | u :: v :: r, h => simp at h
theorem sel_next {c : Int → Bool} {M : List Int} {i : Nat} {u v : Int} (hu : M[i]? = some u) (hv : M[i+1]? = some v) : selL c (M.drop i) = (if c u then [(u, v)] else []) ++ selL c (M.drop (i+1)) := by
  rw [drop_cons hu, drop_cons hv, selL_cons]
theorem rise_next {M : List Int} (h : Rise M) {i : Nat} {u v : Int} (hu : M[i]? = some u) (hv : M[i+1]? = some v) : u < v := by
  obtain ⟨h1, rfl⟩ := List.getElem?_eq_some_iff.1 hu
  obtain ⟨h2, rfl⟩ := List.getElem?_eq_some_iff.1 hv
  exact (List.pairwise_iff_getElem.1 h) i (i+1) h1 h2 (by omega)
theorem new_pair (w : World) (A : Option Addr) (n c : Nat) (A2 : Option Addr) (n2 c2 : Nat) (l m : List R) (hl : l.length = n) (hm : m.length = n2) (hr : Rd w w.heap.size A l) (hr2 : Rd w w.heap.size A2 m) (g : Nat) (hg : g = w.heap.size) :
    RdL (w.alloc (.cells #[.slice A n c, .slice A2 n2 c2] 36)) (w.alloc (.cells #[.slice A n c, .slice A2 n2 c2] 36)).heap.size (some ⟨g, 0, none⟩) [l, m] := by
  subst hg
  have hb := (Below.refl w.heap.size w).alloc (Nat.le_refl _) (.cells #[.slice A n c, .slice A2 n2 c2] 36)
  intro k x hx
  match k with
  | 0 =>
    obtain rfl : l = x := by simpa using hx
    exact ⟨w.heap.size, 0, A, c, rfl, by simp, by rw [hl]; exact cell_new _ _ _ 0, hr.up hb⟩
  | 1 =>
    obtain rfl : m = x := by simpa using hx
    exact ⟨w.heap.size, 0, A2, c2, rfl, by simp, by rw [hm]; exact cell_new _ _ _ 1, hr2.up hb⟩
  | k+2 => simp at hx
theorem two_all {l m : List R} {len len2 : Nat} (h : l.length = len) (h2 : m.length = len2) (hm : len ≤ 100000) (hm2 : len2 ≤ 100000) : ∀ x ∈ [l, m], x.length ≤ 100000 := by
  intro x hx
  simp only [List.mem_cons, List.not_mem_nil, or_false] at hx
  rcases hx with rfl | rfl
  · omega
  · omega
set_option maxHeartbeats 4000000 in
set_option maxRecDepth 100000 in
theorem Mix_any (A : Option Addr) (len cap : Nat) (A2 : Option Addr) (len2 cap2 : Nat) (way : Int) (hw : way = 0 ∨ way = 1 ∨ way = 2) (w : World) (l m : List R) (hlen : l.length = len) (hr : Rd w w.heap.size A l) (hI : IR l)
    (hlen2 : m.length = len2) (hr2 : Rd w w.heap.size A2 m) (hI2 : IR m) (hm : len ≤ 100000) (hm2 : len2 ≤ 100000) :
    Calls Try.prog 30 #[.slice A len cap, .slice A2 len2 cap2, .int .i64 way] w fun e w' => (∃ A' n c, e = .returned (.slice A' n c) ∧ Own w' w.heap.size A' n c (mixR way l m)) ∧ Below w.heap.size w w' := by
  obtain ⟨i0, hi, hz0, hz1, hz2⟩ := info_parts info29
  have H := Lib.hid hlen; have HR := Lib.hid hr; have HI := Lib.hid hI
  have H2 := Lib.hid hlen2; have HR2 := Lib.hid hr2; have HI2 := Lib.hid hI2
  have HW := Lib.hid hw
  clear hlen hr hI hlen2 hr2 hI2 hw
  go_enter Try.func30, Try.ntmps30
  go_wp2_with fail
  refine (marks_any _ 2 _ [l, m] (new_pair w A len cap A2 len2 cap2 l m H.out H2.out HR.out HR2.out _ rfl) rfl (two_all H.out H2.out hm hm2)).mono ?_
  rintro e w2 ⟨⟨AM, n, c, rfl, hM⟩, hb⟩
  have HB6 : Hid (Below w.heap.size w w2) := Lib.hid (((Below.refl _ _).alloc (Nat.le_refl _) _).trans (hb.mono (by simp)))
  have hmk := marksL_mk l m
  have hn := marksL_len l m
  have hM' : RdN w2 AM n c (marksL l m) := hM
  have hnl : n ≤ 1000000 := by have := hM'.1; have := H.out; have := H2.out; omega
  have HM := Lib.hid hM'
  have HK := Lib.hid hmk
  clear hM hM' hb hmk hn
  generalize hBB : w2.heap.size = BB at *
  have hsB : w.heap.size ≤ BB := by have := HB6.out.size; omega
  have HB := Lib.hid hBB
  have HRM : Hid (RdI w2 BB AM (marksL l m)) := Lib.hid (by rw [← hBB]; exact HM.out.2.1)
  have HML : Hid ((marksL l m).length = n) := Lib.hid HM.out.1
  have HR5 : Hid (Rd w2 w.heap.size A l) := Lib.hid (HR.out.below HB6.out (Nat.le_refl _))
  have HR6 : Hid (Rd w2 w.heap.size A2 m) := Lib.hid (HR2.out.below HB6.out (Nat.le_refl _))
  clear hBB HM HR HR2
  go_wp2_with fail
  go_loopw [8, 9] (fun vo vi wr => ∃ (i : Nat) (B : Option Addr) (k d : Nat) (o : List R), i ≤ n ∧ k ≤ i ∧ vi = .int .i64 i ∧ vo = .slice B k d ∧ Hid (Own wr BB B k d o) ∧ Hid ((selL (keepB way l m) ((marksL l m).drop i)).foldl mstep o = mixR way l m) ∧
    Hid (∀ s, o.getLast? = some s → ∀ u, (marksL l m)[i]? = some u → s.2 ≤ u) ∧ Below BB w2 wr) (fun _ vi _ => n - (intOf vi).toNat)
  case atStart => exact ⟨0, Option.none, 0, 0, [], Nat.zero_le _, Nat.le_refl _, rfl, rfl, Lib.hid (Own.nil _ _), Lib.hid rfl, Lib.hid (fun s hs => by simp at hs), Below.refl _ _⟩
  case round =>
    obtain ⟨i, B, k, d, o, hi2, hki, rfl, rfl, RO, RE, RL, hbl⟩ := hrel
    have hsz : BB ≤ wr.heap.size := by have := hbl.size; have := HB.out; omega
    have HBel := Lib.hid hbl
    by_cases hlt : i + 1 < n
    · obtain ⟨u, hu⟩ := get_some (marksL l m) i (by have := HML.out; omega)
      obtain ⟨v, hv⟩ := get_some (marksL l m) (i+1) (by have := HML.out; omega)
      obtain ⟨b, off, rfl, hb, c0⟩ := HRM.out.below hbl (Nat.le_refl _) i u hu
      obtain ⟨b2, off2, e2, _, c1⟩ := HRM.out.below hbl (Nat.le_refl _) (i+1) v hv
      cases e2
      have huv := rise_next HK.out.1 hu hv
      have RE1 : Hid ((selL (keepB way l m) ((marksL l m).drop (i+1))).foldl mstep (if keepB way l m u = true then mstep o (u, v) else o) = mixR way l m) := Lib.hid (by
        have := RE.out
        rw [sel_next hu hv] at this
        by_cases hc : keepB way l m u = true
        · rw [if_pos hc] at this ⊢; exact this
        · rw [if_neg hc] at this ⊢; exact this)
      have RLu : Hid (∀ s, o.getLast? = some s → s.2 ≤ u) := Lib.hid (fun s hs => RL.out s hs u hu)
      have HV := Lib.hid hv
      have hb' : b < wr.heap.size := by omega
      have RD1 : Hid (Rd wr wr.heap.size A l) := Lib.hid ((HR5.out.below hbl hsB).more (by omega))
      have RD2 : Hid (Rd wr wr.heap.size A2 m) := Lib.hid ((HR6.out.below hbl hsB).more (by omega))
      have hlti : (i : Int) + 1 < (n : Int) := by omega
      clear hu hv hbl
      go_wp2_with fail
      go_quiet ((first
        | (go_at_call_of 37 (Value.slice A len cap); exact Calls.quiet_of_same ((RefHas_any A len cap u _ l H.out (RD1.out.drewN _) (by omega)).mono fun _ _ h => ⟨h.1, h.2.symm⟩))
        | (go_at_call_of 37 (Value.slice A2 len2 cap2); exact Calls.quiet_of_same ((RefHas_any A2 len2 cap2 u _ m H2.out (RD2.out.drewN _) (by omega)).mono fun _ _ h => ⟨h.1, h.2.symm⟩))))
      have c0' : (wr.drewN nq).cell? ⟨b, off + i, none⟩ = some (.int .i64 u) := c0
      have c1' : (wr.drewN nq).cell? ⟨b, off + (i + 1), none⟩ = some (.int .i64 v) := c1
      have ROq : Hid (Own (wr.drewN nq) BB B k d o) := Lib.hid (RO.out.drewN nq)
      have HBq : Hid (Below BB w2 (wr.drewN nq)) := Lib.hid (belowDrewN HBel.out nq)
      have hszq : BB ≤ (wr.drewN nq).heap.size := hsz
      have hbq : b < (wr.drewN nq).heap.size := hb'
      have hkb : keepB way l m u = cW way (hasB l u) (hasB m u) := rfl
      rw [hkb] at RE1
      clear c0 c1 RO HBel hsz hb' RD1 RD2 hkb RE RL
      generalize wr.drewN nq = wq at *
      generalize hasB l u = X at *
      generalize hasB m u = Y at *
      go_upto_region 7 with fail
      go_cut [67] (fun cv wx => cv = .bool (!cW way X Y) ∧ wx = wq)
      case first =>
        rcases HW.out with rfl | rfl | rfl <;> cases X <;> cases Y <;> (go_wp2_with fail; go_meet; exact ⟨rfl, rfl⟩)
      case rest =>
        obtain ⟨rfl, rfl⟩ := hcut
        generalize cW way X Y = Z at *
        cases Z with
        | false =>
          have RE2 : Hid ((selL (keepB way l m) ((marksL l m).drop (i+1))).foldl mstep o = mixR way l m) := Lib.hid (by have := RE1.out; simpa using this)
          have RL2 : Hid (∀ s, o.getLast? = some s → ∀ y, (marksL l m)[i+1]? = some y → s.2 ≤ y) := Lib.hid (fun s hs y hy => by
            have h1 := RLu.out s hs
            have h2 := HV.out
            rw [hy] at h2
            have : y = v := Option.some.inj h2
            omega)
          go_wp2_with fail
          go_roundw
          case rel => exact ⟨i+1, B, k, d, o, by omega, by omega, by go_num, rfl, ROq, RE2, RL2, HBq.out⟩
          case measure => simp [intOf]; omega
        | true =>
          have RE2 : Hid ((selL (keepB way l m) ((marksL l m).drop (i+1))).foldl mstep (mstep o (u, v)) = mixR way l m) := Lib.hid (by have := RE1.out; simpa using this)
          clear RE1
          rcases snoc_cases o with rfl | ⟨L, t, rfl⟩
          · obtain rfl : k = 0 := by simpa using ROq.out.1.symm
            have RE3 : Hid ((selL (keepB way l m) ((marksL l m).drop (i+1))).foldl mstep ([] ++ [(u, v)]) = mixR way l m) := RE2
            have RL3 : Hid (∀ s, ([] ++ [(u, v)]).getLast? = some s → ∀ y, (marksL l m)[i+1]? = some y → s.2 ≤ y) := Lib.hid (fun s hs y hy => by
              have h2 := HV.out
              rw [hy] at h2
              have : y = v := Option.some.inj h2
              have h3 : ([] ++ [(u, v)]).getLast? = some (u, v) := by simp
              rw [h3] at hs
              have h4 := Option.some.inj hs
              rw [← h4]; show v ≤ y; omega)
            go_wp2_with fail
            go_quiet (fail)
            have r0 : (wc.drewN nq).cell? ⟨b, off + i, none⟩ = some (.int .i64 u) := c0'
            have r1 : (wc.drewN nq).cell? ⟨b, off + (i + 1), none⟩ = some (.int .i64 v) := c1'
            have hbx : b < (wc.drewN nq).heap.size := hbq
            have hszx : BB ≤ (wc.drewN nq).heap.size := hszq
            have ROx : Hid (Own (wc.drewN nq) BB B 0 d []) := Lib.hid (ROq.out.drewN _)
            have HBx : Hid (Below BB w2 (wc.drewN nq)) := Lib.hid (belowDrewN HBq.out nq)
            have hn2 : (Value.slice B (0) d).ownBlock ≠ some b := fun h => by have := (ROq.out.2.lt _ h).1; omega
            have i1 : (0 : Int) ≤ (i : Int) := Int.natCast_nonneg _
            have i2 : (i : Int) < (n : Int) := by omega
            have i3 : (0 : Int) ≤ (i : Int) + 1 := by omega
            have i4 : IntKind.i64.wrap ((i : Int) + 1) = (i : Int) + 1 := IntWalk.i64_in _ (by omega)
            clear c0' c1' ROq HBq hszq hbq
            generalize wc.drewN nq = wx0 at *
            go_wp2_with fail
            go_region_held3 (fun w' => w'.cell? ⟨b, off + i, none⟩ = some (.int .i64 u) ∧ w'.cell? ⟨b, off + (i + 1), none⟩ = some (.int .i64 v))
              (first
                | go_keep
                | (go_split_ands
                   refine ⟨?_, ?_⟩
                   · (rw [hgrow.cell_far _ (by simp; omega) (Ne.symm hn2)]; assumption)
                   · (rw [hgrow.cell_far _ (by simp; omega) (Ne.symm hn2)]; assumption)))
              ((refine step_append_lies _ (by rfl) _ _ _ (by rfl) BB 63 i0 _ 2 16 Try.underlying36 hi hz0 hz1 hz2 rfl (by omega) (.slice B (0) d) (0) (cells []) (by rfl) ((ROx.out.2.alloc _).drew) ⟨wx0.heap.size, 0, none⟩ 1 1 (cells [(u, v)]) (by rfl) (by rfl) (new_one wx0 (u, v) _ rfl) (cells_one_cell _) (by omega) (by unfold maxLen; omega) (by omega) (by simp; omega) (wx0.heap.size + 1) (by simp) ?_; intro gg c8 w4 hown' hgrow hat hlt9))
            obtain ⟨⟨A8, c8', hv8, hown2⟩, hb3, _, _, _⟩ := appL_step ROx.out HBx.out hszx (belowDrewN ((Below.refl _ _).alloc (Nat.le_refl _) _) 1) (m := 1) (K := [(u, v)]) rfl hown' hgrow
            simp only [Value.slice.injEq, true_and] at hv8
            obtain ⟨rfl, rfl⟩ := hv8
            have HO9 := Lib.hid hown2
            have HB9 := Lib.hid hb3
            clear hown' hgrow hown2 hb3 hat
            go_wp2_with fail
            go_roundw
            case rel => exact ⟨i+1, _, 0+1, c8, [] ++ [(u, v)], by omega, by omega, by go_num, rfl, HO9, RE3, RL3, HB9.out⟩
            case measure => simp [intOf]; omega
          · obtain ⟨q, rfl⟩ : ∃ q, k = q + 1 := ⟨L.length, by simpa using ROq.out.1.symm⟩
            obtain ⟨g, rfl, hg1, hg2, t0, t1, t2⟩ := ROq.out.last
            have htu := RLu.out t (by simp)
            by_cases he : t.2 = u
            · have f1 : (t.2 == u) = true := by simpa using he
              have RE3 : Hid ((selL (keepB way l m) ((marksL l m).drop (i+1))).foldl mstep (L ++ [(t.1, v)]) = mixR way l m) := Lib.hid (by
                have := RE2.out
                rw [mstep_yes L t (u, v) (by show u ≤ t.2; omega)] at this
                have e : max t.2 v = v := by omega
                simp only [e] at this
                exact this)
              have RL3 : Hid (∀ s, (L ++ [(t.1, v)]).getLast? = some s → ∀ y, (marksL l m)[i+1]? = some y → s.2 ≤ y) := Lib.hid (fun s hs y hy => by
                have h2 := HV.out
                rw [hy] at h2
                have : y = v := Option.some.inj h2
                have h3 : (L ++ [(t.1, v)]).getLast? = some (t.1, v) := by simp
                rw [h3] at hs
                have h4 := Option.some.inj hs
                rw [← h4]; show v ≤ y; omega)
              clear he
              go_wp2_with fail
              go_quiet (fail)
              go_wp2_with fail
              go_roundw
              case rel => exact ⟨i+1, some ⟨g, 0, Option.none⟩, q+1, d, _, by omega, by omega, by go_num, rfl, Lib.hid ((ROq.out.drewN nq).setLast v), RE3, RL3, (belowDrewN HBq.out nq).setCell hg1 _⟩
              case measure => simp [intOf]; omega
            · have f1 : (t.2 == u) = false := by simpa using he
              have RE3 : Hid ((selL (keepB way l m) ((marksL l m).drop (i+1))).foldl mstep (L ++ [t] ++ [(u, v)]) = mixR way l m) := Lib.hid (by
                have := RE2.out
                rwa [mstep_no L t (u, v) (by show ¬ u ≤ t.2; omega)] at this)
              have RL3 : Hid (∀ s, (L ++ [t] ++ [(u, v)]).getLast? = some s → ∀ y, (marksL l m)[i+1]? = some y → s.2 ≤ y) := Lib.hid (fun s hs y hy => by
                have h2 := HV.out
                rw [hy] at h2
                have : y = v := Option.some.inj h2
                have h3 : (L ++ [t] ++ [(u, v)]).getLast? = some (u, v) := by simp
                rw [h3] at hs
                have h4 := Option.some.inj hs
                rw [← h4]; show v ≤ y; omega)
              clear he
              go_wp2_with fail
              go_quiet (fail)
              have r0 : (wc.drewN nq).cell? ⟨b, off + i, none⟩ = some (.int .i64 u) := c0'
              have r1 : (wc.drewN nq).cell? ⟨b, off + (i + 1), none⟩ = some (.int .i64 v) := c1'
              have hbx : b < (wc.drewN nq).heap.size := hbq
              have hszx : BB ≤ (wc.drewN nq).heap.size := hszq
              have ROx : Hid (Own (wc.drewN nq) BB (some ⟨g, 0, Option.none⟩) (q+1) d (L ++ [t])) := Lib.hid (ROq.out.drewN _)
              have HBx : Hid (Below BB w2 (wc.drewN nq)) := Lib.hid (belowDrewN HBq.out nq)
              have hn2 : (Value.slice (some ⟨g, 0, Option.none⟩) (q+1) d).ownBlock ≠ some b := fun h => by have := (ROq.out.2.lt _ h).1; omega
              have i1 : (0 : Int) ≤ (i : Int) := Int.natCast_nonneg _
              have i2 : (i : Int) < (n : Int) := by omega
              have i3 : (0 : Int) ≤ (i : Int) + 1 := by omega
              have i4 : IntKind.i64.wrap ((i : Int) + 1) = (i : Int) + 1 := IntWalk.i64_in _ (by omega)
              clear c0' c1' ROq HBq hszq hbq t0 t1 t2
              generalize wc.drewN nq = wx0 at *
              go_wp2_with fail
              go_region_held3 (fun w' => w'.cell? ⟨b, off + i, none⟩ = some (.int .i64 u) ∧ w'.cell? ⟨b, off + (i + 1), none⟩ = some (.int .i64 v))
                (first
                  | go_keep
                  | (go_split_ands
                     refine ⟨?_, ?_⟩
                     · (rw [hgrow.cell_far _ (by simp; omega) (Ne.symm hn2)]; assumption)
                     · (rw [hgrow.cell_far _ (by simp; omega) (Ne.symm hn2)]; assumption)))
                ((refine step_append_lies _ (by rfl) _ _ _ (by rfl) BB 63 i0 _ 2 16 Try.underlying36 hi hz0 hz1 hz2 rfl (by omega) (.slice (some ⟨g, 0, Option.none⟩) (q+1) d) (q+1) (cells (L ++ [t])) (by rfl) ((ROx.out.2.alloc _).drew) ⟨wx0.heap.size, 0, none⟩ 1 1 (cells [(u, v)]) (by rfl) (by rfl) (new_one wx0 (u, v) _ rfl) (cells_one_cell _) (by omega) (by unfold maxLen; omega) (by omega) (by simp; omega) (wx0.heap.size + 1) (by simp) ?_; intro gg c8 w4 hown' hgrow hat hlt9))
              obtain ⟨⟨A8, c8', hv8, hown2⟩, hb3, _, _, _⟩ := appL_step ROx.out HBx.out hszx (belowDrewN ((Below.refl _ _).alloc (Nat.le_refl _) _) 1) (m := 1) (K := [(u, v)]) rfl hown' hgrow
              simp only [Value.slice.injEq, true_and] at hv8
              obtain ⟨rfl, rfl⟩ := hv8
              have HO9 := Lib.hid hown2
              have HB9 := Lib.hid hb3
              clear hown' hgrow hown2 hb3 hat
              go_wp2_with fail
              go_roundw
              case rel => exact ⟨i+1, _, q+1+1, c8, (L ++ [t]) ++ [(u, v)], by omega, by omega, by go_num, rfl, HO9, RE3, RL3, HB9.out⟩
              case measure => simp [intOf]; omega
    · have RF : Hid (o = mixR way l m) := Lib.hid (by have := RE.out; rwa [sel_last (by have := HML.out; omega)] at this)
      have hlt' : ¬ ((i : Int) + 1 < (n : Int)) := by omega
      clear hbl
      go_wp2_with fail
      go_ret
      exact ⟨⟨_, _, _, rfl, by have := RO.out; rw [RF.out] at this; exact this.mono hsB⟩, HB6.out.trans (HBel.out.mono hsB)⟩
end Go.Proofs.Ytobeppeadkoieaa.Rg
