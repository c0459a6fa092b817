/-
  What ranges.Less answers: the right list of what one list has and the other has not.
-/
import Derived.Test.YtdpjblepcpjomaaRWalke
import Derived.Deep.AppendLies
import Derived.Deep.LoopGhost
import Derived.WalkMore
import Derived.Deep.CutBlock
namespace Go.Proofs.Ytdpjblepcpjomaa
open Go.RowKit
theorem drop_cons {α : Type} {l : List α} {k : Nat} {s : α} (h : l[k]? = some s) : l.drop k = s :: l.drop (k+1) := by
  obtain ⟨hk, e⟩ := List.getElem?_eq_some_iff.1 h
  rw [← e, ← List.drop_eq_getElem_cons hk]
theorem skip_step {b : List R} {i : Nat} {s : R} (hs : b[i]? = some s) {f : Int} (h : s.2 ≤ f) : skip f (b.drop (i+1)) = skip f (b.drop i) := by
  rw [drop_cons hs]
  conv => rhs; unfold skip
  rw [if_pos h]
theorem skip_stop {b : List R} {i : Nat} {s : R} (hs : b[i]? = some s) {f : Int} (h : ¬ s.2 ≤ f) : skip f (b.drop i) = b.drop i := by
  rw [drop_cons hs]
  unfold skip
  rw [if_neg h]
theorem cut_cons (f t : Int) (s : R) (b : List R) (h : s.1 < t) : cut f t (s :: b) = (if f < s.1 then [(f, s.1)] else []) ++ (if t ≤ s.2 then [] else cut s.2 t b) := by
  rw [cut, if_pos h]
theorem cut_far (f t : Int) (s : R) (b : List R) (h : ¬ s.1 < t) : cut f t (s :: b) = [(f, t)] := by
  rw [cut, if_neg h]
theorem Own.setNe {w : World} {base : Nat} {A : Option Addr} {n cap : Nat} {l : List R} (h : Own w base A n cap l) (a : Addr) (v : Value) (ha : (Value.slice A n cap).ownBlock ≠ some a.block) : Own (w.setCell a v) base A n cap l :=
  ⟨h.1, h.2.kept (grown_setCell w a v) (.inr ha)⟩
set_option maxHeartbeats 4000000 in
set_option maxRecDepth 100000 in
theorem Less_any (A : Option Addr) (len cap : Nat) (A2 : Option Addr) (len2 cap2 : Nat) (w : World) (l m : List R) (hlen : l.length = len) (hr : Rd w w.heap.size A l) (hI : IR l)
    (hlen2 : m.length = len2) (hr2 : Rd w w.heap.size A2 m) (hI2 : IR m) (hm : len ≤ 100000) (hm2 : len2 ≤ 100000) :
    Calls Try.prog 30 #[.slice A len cap, .slice A2 len2 cap2] w fun e w' => (∃ A' n c, e = .returned (.slice A' n c) ∧ Own w' w.heap.size A' n c (lessR l m)) ∧ Below w.heap.size w w' := by
  obtain ⟨i0, hi, hz0, hz1, hz2⟩ := info_parts info29
  have H := Lib.hid hlen; have HR := Lib.hid hr; have HI := Lib.hid hI
  have H2 := Lib.hid hlen2; have HR2 := Lib.hid hr2; have HI2 := Lib.hid hI2
  clear hlen hr hI hlen2 hr2 hI2
  go_enter Try.func30, Try.ntmps30
  go_wp2_with fail
  go_step3
  go_wp2_with fail
  refine (Normal_any A len cap _ l H.out HR.out HI.out (by omega)).mono ?_
  rintro e w1 ⟨⟨A5, n5, c5, rfl, hown5⟩, hb5⟩
  have HO5 := Lib.hid hown5; have HB5 := Lib.hid hb5
  clear hown5 hb5
  go_wp2_with fail
  refine (Normal_any A2 len2 cap2 _ m H2.out (HR2.out.up HB5.out) HI2.out (by omega)).mono ?_
  rintro e w2 ⟨⟨A6, n6, c6, rfl, hown6⟩, hb6⟩
  have HO6 := Lib.hid hown6; have HB6 := Lib.hid (below_up HB5.out hb6)
  have HO7 := Lib.hid (HO5.out.up hb6)
  have h5 : n5 ≤ 100000 := by have := nl_len l; have := H.out; have := HO5.out.1; omega
  have h6 : n6 ≤ 100000 := by have := nl_len m; have := H2.out; have := HO6.out.1; omega
  clear hown6 hb6 HO5 HB5 HR HR2
  generalize hBB : w2.heap.size = BB at *
  have hsB : w.heap.size ≤ BB := by have := HB6.out.size; omega
  have HB := Lib.hid hBB
  have HR5 : Hid (Rd w2 BB A5 (nl l)) := Lib.hid (by rw [← hBB]; exact HO7.out.rd)
  have HR6 : Hid (Rd w2 BB A6 (nl m)) := Lib.hid (by rw [← hBB]; exact HO6.out.rd)
  have HL5 := Lib.hid HO7.out.1
  have HL6 := Lib.hid HO6.out.1
  clear hBB HO6 HO7
  have HLEN : Hid ((lessL (nl l) (nl m)).length ≤ 10000100000) := Lib.hid (by
    have h1 := lessL_len (nl l) (nl m)
    rw [HL5.out, HL6.out] at h1
    have h2 : n5 * (n6 + 1) ≤ 100000 * 100001 := Nat.mul_le_mul h5 (by omega)
    omega)
  go_wp2_with fail
  go_step3
  go_wp2_with fail
  go_loopg [5, 6, 16] n5 (fun g vo vi vk wr => ∃ (k i : Nat) (B7 : Option Addr) (m7 d7 : Nat) (o : List R), k + g = n5 ∧ i ≤ n6 ∧ vk = .int .i64 k ∧ vi = .int .i64 i ∧ vo = .slice B7 m7 d7 ∧
    Hid (Own wr BB B7 m7 d7 o) ∧ Hid (o ++ lessL ((nl l).drop k) ((nl m).drop i) = lessL (nl l) (nl m)) ∧ Below BB w2 wr)
  case atStart => exact ⟨0, 0, Option.none, 0, 0, [], by omega, Nat.zero_le _, rfl, rfl, rfl, Lib.hid (Own.nil _ _), Lib.hid (by simp), Below.refl _ _⟩
  case round =>
    obtain ⟨k, i, B7, m7, d7, o, hkg, hi6, rfl, rfl, rfl, RO, RE, hbl⟩ := hrel
    have hsz : BB ≤ wr.heap.size := by have := hbl.size; have := HB.out; omega
    cases gk with
    | zero =>
      obtain rfl : k = n5 := by omega
      have RF : Hid (o = lessL (nl l) (nl m)) := Lib.hid (by have := RE.out; rw [List.drop_of_length_le (by have := HL5.out; omega)] at this; simpa [lessL] using this)
      have HBel := Lib.hid hbl
      clear hbl
      go_wp2_with fail
      rw [Exit.noGoto_ret]
      go_ret
      exact ⟨⟨_, _, _, rfl, by have := RO.out; rw [RF.out] at this; exact this.mono hsB⟩, HB6.out.trans (HBel.out.mono hsB)⟩
    | succ g =>
      have hlt : k < n5 := by omega
      obtain ⟨r, hr⟩ := get_some (nl l) k (by have := HL5.out; omega)
      obtain ⟨b5, o5, rfl, hb5, a0, a1⟩ := HR5.out.below hbl (Nat.le_refl _) k r hr
      have RE1 : Hid (o ++ (cut r.1 r.2 (skip r.1 ((nl m).drop i)) ++ lessL ((nl l).drop (k+1)) (skip r.1 ((nl m).drop i))) = lessL (nl l) (nl m)) := Lib.hid (by have := RE.out; rw [drop_cons hr] at this; exact this)
      have HBel := Lib.hid hbl
      have hRne : Hid ((Value.slice B7 m7 d7).ownBlock ≠ some wr.heap.size) := Lib.hid (fun h => by have := RO.out.2.lt _ h; omega)
      have hW0 : Hid (Below BB w2 (wr.alloc (.cells #[.int .i64 r.1, .int .i64 r.2] 52))) := Lib.hid (hbl.alloc hsz _)
      have hRO0 : Hid (Own (wr.alloc (.cells #[.int .i64 r.1, .int .i64 r.2] 52)) BB B7 m7 d7 o) := Lib.hid (RO.out.alloc _)
      have e0 : (wr.alloc (.cells #[.int .i64 r.1, .int .i64 r.2] 52)).cell? ⟨wr.heap.size, 0, none⟩ = some (.int .i64 r.1) := cell_new _ _ _ 0
      have e1 : (wr.alloc (.cells #[.int .i64 r.1, .int .i64 r.2] 52)).cell? ⟨wr.heap.size, 1, none⟩ = some (.int .i64 r.2) := cell_new _ _ _ 1
      have ef : (wr.alloc (.cells #[.int .i64 r.1, .int .i64 r.2] 52)).frozen? ⟨wr.heap.size, 0, none⟩ = false := by unfold World.frozen?; rw [heap_alloc_new]; simp
      have hlt0 : wr.heap.size < (wr.alloc (.cells #[.int .i64 r.1, .int .i64 r.2] 52)).heap.size := by simp
      clear hr hbl
      go_upto_block 2 with fail
      generalize wr.alloc (.cells #[.int .i64 r.1, .int .i64 r.2] 52) = W0 at *
      generalize wr.heap.size = Rb at *
      go_cut [6] (fun vi wx => ∃ (i' q : Nat), i' ≤ n6 ∧ vi = .int .i64 i' ∧ Hid (skip r.1 ((nl m).drop i) = (nl m).drop i') ∧ wx = W0.drewN q)
      case first =>
        go_wp2_with fail
        go_loopg [6] (n6 - i) (fun g2 vi wy => ∃ (i' q : Nat), i' + g2 = n6 ∧ vi = .int .i64 i' ∧ Hid (skip r.1 ((nl m).drop i') = skip r.1 ((nl m).drop i)) ∧ wy = W0.drewN q)
        case atStart => exact ⟨i, 0, by omega, rfl, Lib.hid rfl, rfl⟩
        case round =>
          obtain ⟨i', q, hig, rfl, HK, rfl⟩ := hrel
          cases gk with
          | zero =>
            obtain rfl : i' = n6 := by omega
            have HK2 : Hid (skip r.1 ((nl m).drop i) = (nl m).drop i') := Lib.hid (by rw [← HK.out, List.drop_of_length_le (by have := HL6.out; omega)]; rfl)
            go_wp2_with fail
            go_quiet (fail)
            go_wp2_with fail
            go_meet
            exact ⟨i', q + nq, Nat.le_refl _, rfl, HK2, World.drewN_drewN ..⟩
          | succ g2 =>
            have hlt2 : i' < n6 := by omega
            obtain ⟨s, hs⟩ := get_some (nl m) i' (by have := HL6.out; omega)
            obtain ⟨b6, o6, rfl, hb6, c0, c1⟩ := HR6.out.below hW0.out (Nat.le_refl _) i' s hs
            by_cases hc : s.2 ≤ r.1
            · have HK2 := Lib.hid ((skip_step hs hc).trans HK.out)
              clear hs
              go_wp2_with fail
              go_quiet (fail)
              go_wp2_with fail
              go_roundg g2
              case measure => omega
              case rel => exact ⟨i'+1, q + nq, by omega, by go_num, HK2, rfl⟩
            · have HK2 := Lib.hid (HK.out.symm.trans (skip_stop hs hc))
              clear hs
              go_wp2_with fail
              go_quiet (fail)
              go_wp2_with fail
              go_meet
              exact ⟨i', q + nq, by omega, rfl, HK2, World.drewN_drewN ..⟩
      case rest =>
        obtain ⟨i', q, hi', rfl, HSK, rfl⟩ := hcut
        have hB1 : Hid (Below BB w2 (W0.drewN q)) := Lib.hid (belowDrewN hW0.out q)
        have hRO1 : Hid (Own (W0.drewN q) BB B7 m7 d7 o) := Lib.hid (hRO0.out.drewN q)
        have RE2 : Hid (o ++ (cut r.1 r.2 ((nl m).drop i') ++ lessL ((nl l).drop (k+1)) ((nl m).drop i')) = lessL (nl l) (nl m)) := Lib.hid (by have := RE1.out; rwa [HSK.out] at this)
        have HHD : Hid (∀ s b', (nl m).drop i' = s :: b' → r.1 < s.2) := Lib.hid (fun s b' h => skip_head r.1 ((nl m).drop i) s b' (by rw [HSK.out]; exact h))
        have e0' : (W0.drewN q).cell? ⟨Rb, 0, none⟩ = some (.int .i64 r.1) := e0
        have e1' : (W0.drewN q).cell? ⟨Rb, 1, none⟩ = some (.int .i64 r.2) := e1
        have ef' : (W0.drewN q).frozen? ⟨Rb, 0, none⟩ = false := ef
        have hlt1 : Rb < (W0.drewN q).heap.size := hlt0
        clear e0 e1 ef hlt0 hRO0 hW0 HSK RE1
        generalize W0.drewN q = W1 at *
        go_wp2_with fail
        go_loopg [5, 9] (n6 - i') (fun g3 vo vj wy => ∃ (j : Nat) (B3 : Option Addr) (m3 d3 : Nat) (o3 : List R) (f : Int), j + g3 = n6 ∧ vj = .int .i64 j ∧ vo = .slice B3 m3 d3 ∧ Hid (Own wy BB B3 m3 d3 o3) ∧ Hid ((Value.slice B3 m3 d3).ownBlock ≠ some Rb) ∧
          wy.cell? ⟨Rb, 0, none⟩ = some (.int .i64 f) ∧ wy.cell? ⟨Rb, 1, none⟩ = some (.int .i64 r.2) ∧ wy.frozen? ⟨Rb, 0, none⟩ = false ∧ Rb < wy.heap.size ∧ Hid (o3 ++ (cut f r.2 ((nl m).drop j) ++ lessL ((nl l).drop (k+1)) ((nl m).drop i')) = lessL (nl l) (nl m)) ∧ Below BB w2 wy)
        case atStart => exact ⟨i', B7, m7, d7, o, r.1, by omega, rfl, rfl, hRO1, hRne, e0', e1', ef', hlt1, RE2, hB1.out⟩
        case round =>
          obtain ⟨j, B3, m3, d3, o3, f, hjg, rfl, rfl, RO3, hne3, f0, f1, ff, hlt3, RE3, hbl3⟩ := hrel
          have hsz3 : BB ≤ wr.heap.size := by have := hbl3.size; have := HB.out; omega
          have HB3 := Lib.hid hbl3
          have hlen3 : m3 + (cut f r.2 ((nl m).drop j)).length ≤ 10000100000 := by
            have h1 := HLEN.out
            rw [← RE3.out, List.length_append, List.length_append] at h1
            have := RO3.out.1
            omega
          cases gk with
          | zero =>
            obtain rfl : j = n6 := by omega
            have hcut1 : cut f r.2 ((nl m).drop j) = [(f, r.2)] := by rw [List.drop_of_length_le (by have := HL6.out; omega)]; rfl
            have RE4 : Hid (o3 ++ [(f, r.2)] ++ lessL ((nl l).drop (k+1)) ((nl m).drop i') = lessL (nl l) (nl m)) := Lib.hid (by have := RE3.out; rwa [hcut1, ← List.append_assoc] at this)
            rw [hcut1] at hlen3
            simp only [List.length_cons, List.length_nil] at hlen3
            clear hcut1 hbl3
            go_wp2_with fail
            go_quiet (fail)
            go_wp2_with (at_builtin; refine wpList_append_own _ rfl (.tmp 86) (.tmp 88) 27 rfl BB 52 i0 _ 2 16 Try.underlying27 hi hz0 hz1 hz2 rfl (by decide) _ _ _ rfl ((RO3.out.drewN nq).alloc _).2 ⟨wr.heap.size, 0, none⟩ 1 1 (cells [(f, r.2)]) rfl rfl (new_one (wr.drewN nq) (f, r.2) _ rfl) (cells_one_cell _) (by unfold maxLen; omega) (by omega) (by simp; omega) ?_)
            intro v' w4 hown' hgrow _
            obtain ⟨⟨A8, c8, hv, hown2⟩, hb3, _, _, _⟩ := appL_step RO3.out HB3.out hsz3 ((belowDrewN (Below.refl _ _) nq).alloc (Nat.le_refl _) _) (m := 1) (K := [(f, r.2)]) rfl hown' hgrow
            have HO8 := Lib.hid hown2
            rw [hv]
            clear hgrow hown' hv hown2
            go_wp2_with fail
            go_roundg g
            case measure => omega
            case rel => exact ⟨k+1, i', A8, m3+1, c8, o3 ++ [(f, r.2)], by omega, hi', by go_num, rfl, rfl, HO8, RE4, hb3⟩
          | succ g3 =>
            have hlt2 : j < n6 := by omega
            obtain ⟨s, hs⟩ := get_some (nl m) j (by have := HL6.out; omega)
            obtain ⟨b6, o6, rfl, hb6, c0, c1⟩ := HR6.out.below hbl3 (Nat.le_refl _) j s hs
            have hd := drop_cons hs
            by_cases hc1 : s.1 < r.2
            · have hcut1 : cut f r.2 ((nl m).drop j) = (if f < s.1 then [(f, s.1)] else []) ++ (if r.2 ≤ s.2 then [] else cut s.2 r.2 ((nl m).drop (j+1))) := by rw [hd, cut_cons _ _ _ _ hc1]
              rw [hcut1, List.length_append] at hlen3
              have RE5 : Hid (o3 ++ (((if f < s.1 then [(f, s.1)] else []) ++ (if r.2 ≤ s.2 then [] else cut s.2 r.2 ((nl m).drop (j+1)))) ++ lessL ((nl l).drop (k+1)) ((nl m).drop i')) = lessL (nl l) (nl m)) := Lib.hid (by have := RE3.out; rwa [hcut1] at this)
              have HLN : Hid (m3 + (if f < s.1 then [(f, s.1)] else []).length ≤ 10000100000) := Lib.hid (by omega)
              clear hcut1 hbl3 hs hd hlen3
              go_wp2_with fail
              go_quiet (fail)
              have f0' : (wr.drewN nq).cell? ⟨Rb, 0, none⟩ = some (.int .i64 f) := f0
              have f1' : (wr.drewN nq).cell? ⟨Rb, 1, none⟩ = some (.int .i64 r.2) := f1
              have ff' : (wr.drewN nq).frozen? ⟨Rb, 0, none⟩ = false := ff
              have c0' : (wr.drewN nq).cell? ⟨b6, o6 + j * 2, none⟩ = some (.int .i64 s.1) := c0
              have hlt3' : Rb < (wr.drewN nq).heap.size := hlt3
              have hsz3' : BB ≤ (wr.drewN nq).heap.size := hsz3
              have RO3' : Hid (Own (wr.drewN nq) BB B3 m3 d3 o3) := RO3
              have HB3' : Hid (Below BB w2 (wr.drewN nq)) := Lib.hid (belowDrewN HB3.out nq)
              clear f0 f1 ff c0 hlt3 hsz3
              generalize wr.drewN nq = wv at *
              go_wp2_with fail
              go_quiet (fail)
              go_upto_if 60 with (fail)
              go_cut [5] (fun v wx => ∃ (B4 : Option Addr) (m4 d4 : Nat), v = .slice B4 m4 d4 ∧ Hid (Own wx BB B4 m4 d4 (o3 ++ (if f < s.1 then [(f, s.1)] else []))) ∧ Hid ((Value.slice B4 m4 d4).ownBlock ≠ some Rb) ∧ wx.cell? ⟨Rb, 0, none⟩ = some (.int .i64 f) ∧ wx.cell? ⟨Rb, 1, none⟩ = some (.int .i64 r.2) ∧ wx.frozen? ⟨Rb, 0, none⟩ = false ∧ Rb < wx.heap.size ∧ Below BB w2 wx)
              case first =>
                by_cases hf : f < s.1
                · have HC : Hid ((if f < s.1 then [(f, s.1)] else []) = [(f, s.1)]) := Lib.hid (if_pos hf)
                  have hln : m3 + 1 ≤ 10000100000 := by have := HLN.out; rw [HC.out] at this; exact this
                  have r0 : (wv.drewN nq).cell? ⟨Rb, 0, none⟩ = some (.int .i64 f) := f0'
                  have r1 : (wv.drewN nq).cell? ⟨Rb, 1, none⟩ = some (.int .i64 r.2) := f1'
                  have rf : (wv.drewN nq).frozen? ⟨Rb, 0, none⟩ = false := ff'
                  have rc : (wv.drewN nq).cell? ⟨b6, o6 + j * 2, none⟩ = some (.int .i64 s.1) := c0'
                  have hltx : Rb < (wv.drewN nq).heap.size := hlt3'
                  have hszx : BB ≤ (wv.drewN nq).heap.size := hsz3'
                  have ROx : Hid (Own (wv.drewN nq) BB B3 m3 d3 o3) := Lib.hid (RO3'.out.drewN _)
                  have HBx : Hid (Below BB w2 (wv.drewN nq)) := Lib.hid (belowDrewN HB3'.out nq)
                  have hn1 := hne3.out
                  have hn2 : (Value.slice B3 m3 d3).ownBlock ≠ some b6 := fun h => by have := (RO3.out.2.lt _ h).1; omega
                  clear f0' f1' ff' c0' hlt3' hsz3' RO3' HB3'
                  generalize wv.drewN nq = wx0 at *
                  go_wp2_with fail
                  go_region_held3 (fun w' => w'.cell? ⟨Rb, 0, none⟩ = some (.int .i64 f) ∧ w'.cell? ⟨b6, o6 + j * 2, none⟩ = some (.int .i64 s.1))
                    (first
                      | go_keep
                      | (go_split_ands
                         refine ⟨?_, ?_⟩
                         · (rw [hgrow.cell_far _ (by simp; omega) (Ne.symm hn1)]; assumption)
                         · (rw [hgrow.cell_far _ (by simp; omega) (Ne.symm hn2)]; assumption)))
                    ((refine step_append_lies _ (by rfl) _ _ _ (by rfl) BB 52 i0 _ 2 16 Try.underlying27 hi hz0 hz1 hz2 rfl (by omega) (.slice B3 m3 d3) m3 (cells o3) (by rfl) ((ROx.out.2.alloc _).drew) ⟨wx0.heap.size, 0, none⟩ 1 1 (cells [(f, s.1)]) (by rfl) (by rfl) (new_one wx0 (f, s.1) _ rfl) (cells_one_cell _) (by omega) (by unfold maxLen; omega) (by omega) (by simp; omega) (wx0.heap.size + 1) (by simp) ?_; intro gg c8 w4 hown' hgrow hat hlt))
                  obtain ⟨⟨A8, c8', hv, hown2⟩, hb3, hb4, _, _⟩ := appL_step ROx.out HBx.out hszx (belowDrewN ((Below.refl _ _).alloc (Nat.le_refl _) _) 1) (m := 1) (K := [(f, s.1)]) rfl hown' hgrow
                  simp only [Value.slice.injEq, true_and] at hv
                  obtain ⟨rfl, rfl⟩ := hv
                  have hblk : w4.heap[Rb]? = wx0.heap[Rb]? := (hgrow.block Rb (by simp; omega) (fun e => hn1 e.symm)).trans (((Below.refl wx0.heap.size wx0).alloc (Nat.le_refl _) _).block Rb hltx)
                  have hsz9 := hgrow.size
                  have hne9 : Hid ((Value.slice (some ⟨gg, 0, Option.none⟩) (m3 + 1) c8).ownBlock ≠ some Rb) := Lib.hid (fun e => by
                    have e' : gg = Rb := by simpa [Value.ownBlock] using e
                    rcases hat with h | h
                    · exact hn1 (h.trans (by rw [e']))
                    · omega)
                  have x0 := (World.cell?_of_block (w := wx0) (a := ⟨Rb, 0, none⟩) hblk).trans r0
                  have x1 := (World.cell?_of_block (w := wx0) (a := ⟨Rb, 1, none⟩) hblk).trans r1
                  have xf := (World.frozen?_of_block (w := wx0) (a := ⟨Rb, 0, none⟩) hblk).trans rf
                  have HO9 := Lib.hid hown2
                  have hlt9 : Rb < w4.heap.size := by simp at hsz9; omega
                  have HB9 := Lib.hid hb3
                  clear hown' hgrow hown2 hb3 hb4 hblk
                  go_wp2_with fail
                  go_meet
                  exact ⟨_, m3+1, c8, rfl, by rw [HC.out]; exact HO9, hne9, x0, x1, xf, hlt9, HB9.out⟩
                · have HC : Hid ((if f < s.1 then [(f, s.1)] else []) = []) := Lib.hid (if_neg hf)
                  go_wp2_with fail
                  go_meet
                  exact ⟨B3, m3, d3, rfl, by rw [HC.out, List.append_nil]; exact Lib.hid (RO3'.out.drewN _), hne3, f0', f1', ff', hlt3', belowDrewN HB3'.out _⟩
              case rest =>
                obtain ⟨B4, m4, d4, rfl, RO4, hne4, g0, g1, gf, hlt4, hbl4⟩ := hcut
                have c1' := (hbl4.cell (p := ⟨b6, o6 + j * 2 + 1, none⟩) hb6).trans ((HB3.out.cell (p := ⟨b6, o6 + j * 2 + 1, none⟩) hb6).symm.trans c1)
                have HB4 := Lib.hid hbl4
                clear hbl4 c1
                go_wp2_with fail
                go_quiet (fail)
                by_cases hc2 : r.2 ≤ s.2
                · have RE6 : Hid (o3 ++ (if f < s.1 then [(f, s.1)] else []) ++ lessL ((nl l).drop (k+1)) ((nl m).drop i') = lessL (nl l) (nl m)) := Lib.hid (by have := RE5.out; rw [if_pos hc2, List.append_nil, ← List.append_assoc] at this; exact this)
                  go_wp2_with fail
                  go_roundg g
                  case measure => omega
                  case rel => exact ⟨k+1, i', B4, m4, d4, _, by omega, hi', by go_num, rfl, rfl, Lib.hid (RO4.out.drewN _), RE6, belowDrewN HB4.out _⟩
                · have RE6 : Hid (o3 ++ (if f < s.1 then [(f, s.1)] else []) ++ (cut s.2 r.2 ((nl m).drop (j+1)) ++ lessL ((nl l).drop (k+1)) ((nl m).drop i')) = lessL (nl l) (nl m)) := Lib.hid (by have := RE5.out; rw [if_neg hc2, List.append_assoc, ← List.append_assoc] at this; exact this)
                  go_wp2_with fail
                  go_roundg g3
                  case measure => omega
                  case rel =>
                    refine ⟨j+1, B4, m4, d4, _, s.2, by omega, by go_num, rfl, Lib.hid ((RO4.out.drewN nq).setNe _ _ hne4.out), hne4, World.cell?_setCell_same _ _ _ g0, ?_, by rw [World.frozen?_setCell]; exact gf, by simpa using hlt4, RE6, (belowDrewN HB4.out nq).setCell hsz _⟩
                    exact (World.cell?_setCell_other _ _ _ _ (by intro hh; injection hh with _ h2 _; omega)).trans g1
            · have hcut1 : cut f r.2 ((nl m).drop j) = [(f, r.2)] := by rw [hd]; exact cut_far _ _ _ _ hc1
              have RE4 : Hid (o3 ++ [(f, r.2)] ++ lessL ((nl l).drop (k+1)) ((nl m).drop i') = lessL (nl l) (nl m)) := Lib.hid (by have := RE3.out; rwa [hcut1, ← List.append_assoc] at this)
              rw [hcut1] at hlen3
              simp only [List.length_cons, List.length_nil] at hlen3
              clear hcut1 hbl3 hs hd
              go_wp2_with fail
              go_quiet (fail)
              go_wp2_with (at_builtin; refine wpList_append_own _ rfl (.tmp 86) (.tmp 88) 27 rfl BB 52 i0 _ 2 16 Try.underlying27 hi hz0 hz1 hz2 rfl (by decide) _ _ _ rfl ((RO3.out.drewN nq).alloc _).2 ⟨wr.heap.size, 0, none⟩ 1 1 (cells [(f, r.2)]) rfl rfl (new_one (wr.drewN nq) (f, r.2) _ rfl) (cells_one_cell _) (by unfold maxLen; omega) (by omega) (by simp; omega) ?_)
              intro v' w4 hown' hgrow _
              obtain ⟨⟨A8, c8, hv, hown2⟩, hb3, _, _, _⟩ := appL_step RO3.out HB3.out hsz3 ((belowDrewN (Below.refl _ _) nq).alloc (Nat.le_refl _) _) (m := 1) (K := [(f, r.2)]) rfl hown' hgrow
              have HO8 := Lib.hid hown2
              rw [hv]
              clear hgrow hown' hv hown2
              go_wp2_with fail
              go_roundg g
              case measure => omega
              case rel => exact ⟨k+1, i', A8, m3+1, c8, o3 ++ [(f, r.2)], by omega, hi', by go_num, rfl, rfl, HO8, RE4, hb3⟩
end Go.Proofs.Ytdpjblepcpjomaa
