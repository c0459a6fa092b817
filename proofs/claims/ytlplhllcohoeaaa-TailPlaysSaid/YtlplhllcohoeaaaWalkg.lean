/-
  What Write answers and leaves where it makes the file.
-/
import Derived.Test.YtlplhllcohoeaaaWalkf
namespace Go.Proofs.Ytlplhllcohoeaaa
open Go.RowKit
section
variable {db mb : Nat} {d : Dv} {lo : Int} {N : Nat} {S : Nat → Prop} {F : Option Nat} {Ap : Option Addr} {np cp : Nat} {ps : List (Int × Value)}
theorem only_upp {w wp w2 w7 : World} {S0 : Nat → Prop} (h : Only w w2 S0) (hw : w.heap.size ≤ wp.heap.size) (h' : Only w2 w7 (Sx S0 wp w2)) : Only w w7 S0 :=
  ⟨h'.os.trans h.os, h'.tape.trans h.tape, h'.output.trans h.output, Nat.le_trans h.size h'.size, fun g h1 h2 => (h'.rest g (Nat.lt_of_lt_of_le h1 h.size) (fun hx => hx.elim h2 fun h3 => by omega)).trans (h.rest g h1 h2)⟩
set_option maxRecDepth 40000 in
set_option maxHeartbeats 3000000 in
theorem Write_new (w : World) (h : Dk w db mb d lo N S none Ap np cp ps) (hd : d.down = false) (A : Option Addr) (n c : Nat) (b : List Int) (hn : 0 < n) (hb : n ≤ 1099511627776)
    (hlen : b.length = n) (hcap : n ≤ c) (hr : RdB w w.heap.size A b) (hsep : ∀ a, A = some a → ¬ S a.block) (hN : N + n + 2 ≤ 1099511627776) (hlo : lo ≤ 0)
    (hf : ¬ d.room < (n : Int)) (ha : ¬ (d.armed = true ∧ d.left = 0)) :
    Calls Try.prog 17 #[.pointer (some ⟨db, 0, none⟩), .string tl, .int .i64 0, .slice A n c] w fun e w' => e = .returned (.int .i64 0) ∧
      (∃ fb Ap' np' cp' ps', Dk w' db mb (d.wrote 0 b) lo (N + n + 2) (Sx S w w') (some fb) Ap' np' cp' ps') ∧ Only w w' S := by
  obtain ⟨i0, hi, hz0, hz1, hz2⟩ := info_parts info5
  have hm := may_new w h hd
  have hft := fits_none w h (n : Int) (by omega) (by omega)
  rw [show fitE d (n : Int) = 0 from if_neg (fun h => hf h.2)] at hft
  have q2 : IntKind.i64.wrap (n : Int) = (n : Int) := IntWalk.i64_in _ (by omega)
  have q3 : max (0 : Int) (n : Int) = (n : Int) := by omega
  have q4 : ¬ n = 0 := by omega
  have hgone := h.gone
  have HGN := Lib.hid hgone
  have HH := Lib.hid h; have HR := Lib.hid hr; have HSEP0 := Lib.hid hsep; have HHA := Lib.hid ha; have HLEN := Lib.hid hlen
  clear h hf hr hsep ha hlen hgone
  go_enter Try.func17, Try.ntmps17
  go_wp2_with fail
  refine hm.mono ?_
  rintro e w1 ⟨rfl, rfl⟩
  clear hm
  go_wp2_with fail
  refine hft.mono ?_
  rintro e w1 ⟨rfl, hbb⟩
  have HD1 := Lib.hid (HH.out.up hbb)
  have HO1 : Hid (Only w w1 S) := Lib.hid (Only.of_below hbb)
  clear hft hbb
  go_wp2_with fail
  refine (change_on w1 HD1.out (by omega) HHA.out).mono ?_
  rintro e wp ⟨rfl, hdp, hfp⟩
  obtain ⟨_, _, _, _, _, p5, _⟩ := hdp.cells
  have hdbp := hdp.lt _ hdp.sd
  obtain ⟨w2, hput, hm2, hg2⟩ := (hdp.map.kept (World.grownBy_alloc wp (.cells #[.slice none 0 0, .slice none 0 0, .bool false] 65) none) (by simp)).put wp.heap.size
  rw [show ptr (some wp.heap.size) = Value.pointer (some ⟨wp.heap.size, 0, none⟩) from rfl] at hput
  obtain ⟨hd2, ho2⟩ := hdp.born hm2 hg2
  have HWP : Hid (w.heap.size ≤ wp.heap.size) := Lib.hid (HO1.out.trans hfp.only).size
  have HO2 : Hid (Only w w2 S) := Lib.hid ((HO1.out.trans hfp.only).trans ho2)
  obtain ⟨S2, hS2⟩ : ∃ S2, S2 = Sx S wp w2 := ⟨_, rfl⟩
  rw [← hS2] at hd2
  have HS2 := Lib.hid hS2
  have HD2 := Lib.hid hd2
  have HSEP : Hid (∀ a, A = some a → ¬ S2 a.block) := Lib.hid (fun a e hx => by
    obtain ⟨x0, hx0⟩ := get_some b 0 (by have := HLEN.out; omega)
    obtain ⟨bb, bo, e2, hbb, _⟩ := HR.out 0 x0 hx0
    rw [e] at e2; injection e2 with e2; subst e2
    rw [HS2.out] at hx
    rcases hx with hx | hx
    · exact HSEP0.out _ e hx
    · have := HWP.out; simp only at hx; omega)
  clear hdp hfp HD1 HO1 hm2 hg2 hd2 ho2 hS2
  obtain ⟨f', An', cn', As', cs', q1', hff', hap'⟩ := HD2.out.fat
  obtain rfl : f' = ⟨[], [], false⟩ := by
    injection q1' with h1
    exact h1.symm
  have HNL : Hid (([] : List Int).length = 0) := Lib.hid rfl
  have HQ1 : Hid (({ room := d.room, chg := d.chg + 1, left := d.left - 1, armed := d.armed, down := d.down, f := some ⟨[], [], false⟩ } : Dv).f = some ⟨[], [], false⟩) := Lib.hid rfl
  obtain ⟨f0', _, _⟩ := hff'.cells
  have fz := hff'.froz 0
  replace f0' : w2.cell? ⟨wp.heap.size, 0, none⟩ = some (.slice An' 0 cn') := f0'
  have HF' := Lib.hid hff'; have HAP' := Lib.hid hap'
  clear hff' hap' q1'
  go_wp2_with fail
  have hO0 := HF'.out.now
  replace hO0 : OwnB w2 0 An' 0 cn' [] := hO0
  have hRB2 : RdB w2 w2.heap.size A b := HR.out.keepS HO2.out.size (fun a e => by
    by_cases hlt : a.block < w.heap.size
    · exact HO2.out.rest _ hlt (HSEP0.out a e)
    · obtain ⟨x0, hx0⟩ := get_some b 0 (by have := HLEN.out; omega)
      obtain ⟨bb, bo, e2, hbb, _⟩ := HR.out 0 x0 hx0
      rw [e] at e2; injection e2 with e2; subst e2
      exact absurd hbb hlt)
  refine (lay_any w2 An' 0 cn' ([] : List Int) 0 A n c b hO0 hRB2 HLEN.out hn (fun a e hx => ?_) (by omega) (by omega)).mono ?_
  · cases An' with
    | none => cases hx
    | some b' => injection hx with hx; exact HSEP.out a e (by rw [← hx]; exact HF'.out.sn b' rfl)
  rintro e wl ⟨A', n', c', rfl, hOl, hFr⟩
  have hfb2 : wl.heap[wp.heap.size]? = w2.heap[wp.heap.size]? := (hFr.beside wp.heap.size (HD2.out.lt _ HF'.out.sf) HF'.out.nf).1
  have fl0 := (World.cell?_of_block (w := w2) (w' := wl) (a := ⟨wp.heap.size, 0, none⟩) hfb2).trans f0'
  have flz := (World.frozen?_of_block (w := w2) (w' := wl) (a := ⟨wp.heap.size, 0, none⟩) hfb2).trans fz
  obtain ⟨hd3, ho3⟩ := HD2.out.laid (w1 := wl) rfl HF'.out HAP'.out hFr hOl (by rw [layL_len, HLEN.out]; simp; omega)
  have HD3 := Lib.hid hd3
  have HO2s := Lib.hid ho3
  clear hd3 ho3 hOl hFr hfb2 hRB2 hO0 f0' fz
  go_wp2_with fail
  generalize wl.setCell ⟨wp.heap.size, 0, none⟩ (.slice A' n' c') = w3 at *
  clear fl0 flz
  obtain ⟨x0, hx0⟩ := get_some b 0 (by have := HLEN.out; omega)
  obtain ⟨bb, bo, rfl, hbb, _⟩ := HR.out 0 x0 hx0
  clear hx0
  have HSB : Hid (¬ S2 bb) := Lib.hid (HSEP.out _ rfl)
  have HSB0 : Hid (¬ S bb) := Lib.hid (HSEP0.out _ rfl)
  go_loopg [2, 3] n (fun g va vb wr => ∃ (j : Nat) (A2 : Option Addr) (c2 : Nat) (Ap2 : Option Addr) (np2 cp2 : Nat) (ps2 : List (Int × Value)), j + g = n ∧ va = .int .i64 ((0 + j : Nat) : Int) ∧ vb = .slice A2 g c2 ∧ g ≤ c2 ∧ Hid (0 < g → A2 = some ⟨bb, bo + j, none⟩) ∧
    Hid (Dk wr db mb { room := d.room, chg := d.chg + 1, left := d.left - 1, armed := d.armed, down := d.down, f := some { now := layL ([] : List Int) 0 b, safe := ([] : List Int), sure := false } } lo (N + 1 + j) (Sx S2 w2 wr) (some wp.heap.size) Ap2 np2 cp2 ps2) ∧ Hid (Only w2 wr S2))
  case atStart => exact ⟨0, _, c, Ap, np, cp, ps, by omega, rfl, rfl, hcap, Lib.hid fun _ => rfl, HD3, HO2s⟩
  case round =>
    obtain ⟨j, A2, c2, Ap2, np2, cp2, ps2, hj, rfl, rfl, hc2, HA2, HDr, HOr⟩ := hrel
    cases gk with
    | zero =>
      obtain rfl : j = n := by omega
      go_wp2_with fail
      go_ret
      have hsz := HO2.out.size
      have hsz2 := HOr.out.size
      have e : d.wrote 0 b = { room := d.room, chg := d.chg + 1, left := d.left - 1, armed := d.armed, down := d.down, f := some { now := layL ([] : List Int) 0 b, safe := ([] : List Int), sure := false } } := by
        unfold Dv.wrote; rw [HGN.out]
      refine ⟨rfl, ⟨wp.heap.size, Ap2, np2, cp2, ps2, ?_⟩, only_upp HO2.out HWP.out (by have h := HOr.out; rwa [HS2.out] at h)⟩
      rw [e]
      exact (HDr.out.wide (S' := Sx S w wr) (fun g hg => by
        rcases hg with hg | hg
        · rw [HS2.out] at hg
          rcases hg with hg | hg
          · exact .inl hg
          · exact .inr ⟨by have := HWP.out; omega, by omega⟩
        · exact .inr ⟨by omega, hg.2⟩) (Sx.lt HH.out.lt (by omega))).more (by omega)
    | succ g =>
      obtain ⟨_, _, _, _, _, _, c6⟩ := HDr.out.cells
      have z6 := HDr.out.froz 6
      obtain rfl := HA2.out (by omega)
      obtain ⟨p, hp⟩ : ∃ p : Nat, 0 + j = p := ⟨_, rfl⟩
      rw [hp]
      have HPE := Lib.hid hp
      have hpb : p ≤ 1099511627776 := by omega
      clear hp
      go_upto_region 22 with (fail)
      go_cut [12] (fun v wx => ∃ k : Nat, v = .int .i64 k ∧ 1 ≤ k ∧ k ≤ g + 1 ∧ wx = wr)
      case first =>
        go_wp2_with fail
        all_goals go_meet
        · exact ⟨64 - p % 64, by simp; omega, by omega, by omega, rfl⟩
        · exact ⟨g + 1, by simp, by omega, by omega, rfl⟩
      case rest =>
        obtain ⟨k, rfl, hk1, hk2, rfl⟩ := hcut
        have kl : (0 : Int) ≤ (k : Int) := Int.natCast_nonneg _
        have kc : (k : Int) ≤ (c2 : Int) := by omega
        have hpl : ((b.drop j).take k).length = k := by rw [List.length_take, List.length_drop, HLEN.out]; omega
        have HPL := Lib.hid hpl
        have hRBc : RdB wc wc.heap.size (some ⟨bb, bo + j, Option.none⟩) ((b.drop j).take k) := by
          refine (HR.out.keepS (w' := wc) (B' := wc.heap.size) (by have h1 := HO2.out.size; have h2 := HOr.out.size; omega) (fun a e => ?_)).piece j k
          cases e
          exact (HOr.out.rest _ (Nat.lt_of_lt_of_le hbb HO2.out.size) HSB.out).trans (HO2.out.rest _ hbb HSB0.out)
        have HRB := Lib.hid hRBc
        obtain ⟨i7, hi7, hy0, hy1, hy2⟩ := info_parts info74
        have hdbc := HDr.out.lt _ HDr.out.sd
        have hnp2 : np2 ≤ N + 1 + j := HDr.out.pn
        have hb0 : Below wc.heap.size wc wc.drew := belowDrewN (Below.refl _ _) 1
        have hb1 := lit_below wc
        have hdb0 : db < wc.drew.heap.size := hdbc
        have HDB6 : Hid (some db ≠ (Value.slice Ap2 np2 cp2).ownBlock) := Lib.hid (fun e => by
          cases Ap2 with
          | none => cases e
          | some a =>
            obtain ⟨cur, hc⟩ := row_ty HDr.out.pend.row
            have e2 : db = a.block := by simpa [Value.ownBlock] using e
            exact ty_ne hc HDr.out.head (by decide) e2.symm)
        clear hRBc hpl
        go_wp2_with fail
        go_region_law (first
            | (refine step_append_litB (by rfl) (.tmp 92) (.tmp 95) (by rfl) wc (by first | exact hb1 | exact (Below.refl _ _).alloc (Nat.le_refl _) _) _ (by rfl) (by first | exact lit_one _) (by omega) (some ⟨bb, bo + j, Option.none⟩) k c2 ((b.drop j).take k) (by rfl) HPL.out HRB.out (by simp) (by omega) ?_; intro g5 k5 w5 hown5 hgrow5 hat5 hlt5 hb5; have c65 := (hb5.cell (p := ⟨db, 6, Option.none⟩) hdbc).trans c6; have z65 := (hb5.frozen (p := ⟨db, 6, Option.none⟩) hdbc).trans z6; have hdb5 : db < w5.heap.size := Nat.lt_of_lt_of_le hdbc hb5.size; have HROW5 : Hid (w5.ownsRow 0 74 3 (.slice Ap2 np2 cp2) np2 (pcells ps2)) := Lib.hid (row_keep HDr.out.pend.row (fun a e => hb5.block _ (HDr.out.lt _ (HDr.out.pend.sp a e)))))
            | (refine step_append_lies _ (by rfl) (.tmp 89) (.tmp 98) 57 (by rfl) 0 74 i7 _ 3 48 Try.underlying57 hi7 hy0 hy1 hy2 rfl (by omega) (.slice Ap2 np2 cp2) np2 (pcells ps2) (by rfl) (HROW5.out.alloc _) ⟨w5.heap.size, 0, none⟩ 1 1 [.string tl, .int .i64 p, .slice (some ⟨g5, 0, Option.none⟩) k k5] (by rfl) (by rfl) (World.news_of_block (heap_alloc_new _ _)) (by simp [Value.oneCell']) (by omega) (by unfold maxLen; omega) (by omega) (by simp) (w5.heap.size + 1) (by simp) ?_; intro g6 k6 w6 hown6 hgrow6 hat6 hlt6; have c66 := (hgrow6.cell_far ⟨db, 6, Option.none⟩ (by simp; omega) HDB6.out).trans ((World.cell?_alloc_lt _ _ _ hdb5).trans c65); have z66 := (hgrow6.frozen_far ⟨db, 6, Option.none⟩ (by simp; omega) HDB6.out).trans (((Below.refl w5.heap.size w5).alloc (Nat.le_refl _) _).frozen (p := ⟨db, 6, Option.none⟩) hdb5 |>.trans z65)))
        all_goals
          have hlop : lo ≤ (p : Int) := by have := HPE.out; omega
          obtain ⟨hd7, ho7⟩ := Dk.piece (S0 := S2) (w := w2) HDr.out hown5 hb5 (by rw [HPL.out]; have := HPE.out; omega) (by omega) hlop hown6 hgrow6 hat6 hlt6 HOr.out.size (N' := N + 1 + (j + k)) (by omega) (by omega) _ rfl
          have HD7 := Lib.hid hd7
          have HO7 := Lib.hid (only_up HOr.out ho7)
          clear hd7 ho7 hown5 hown6 hgrow5 hgrow6 hat5 hat6 hlt5 hlt6 hb5 c65 z65 hdb5 HROW5 c66 z66 HDr HOr c6 z6 hb0 hb1 hdb0 HDB6 HRB HPL hdbc hlop
          generalize w6.setCell ⟨db, 6, none⟩ (.slice (some ⟨g6, 0, none⟩) (np2 + 1) k6) = w7 at *
          have q7 : IntKind.i64.wrap ((p : Int) + k) = (p : Int) + k := IntWalk.i64_in _ (by omega)
          have hk3 : (k : Int) ≤ ((g + 1 : Nat) : Int) := by omega
          have hk4 : ((g + 1 : Nat) : Int) ≤ (c2 : Int) := by omega
          by_cases hck : c2 = k
          · have hgk : g + 1 - k = 0 := by omega
            go_wp2_with fail
            go_quiet (fail)
            have HD8 : Hid (Dk (w7.drewN nq) db mb { room := d.room, chg := d.chg + 1, left := d.left - 1, armed := d.armed, down := d.down, f := some { now := layL ([] : List Int) 0 b, safe := ([] : List Int), sure := false } } lo (N + 1 + (j + k)) (Sx S2 w2 (w7.drewN nq)) (some wp.heap.size) (some ⟨g6, 0, Option.none⟩) (np2 + 1) k6 (ps2 ++ [((p : Int), .slice (some ⟨g5, 0, Option.none⟩) k k5)])) := Lib.hid (HD7.out.drewN nq)
            have HO8 : Hid (Only w2 (w7.drewN nq) S2) := Lib.hid ⟨HO7.out.os, HO7.out.tape, HO7.out.output, HO7.out.size, HO7.out.rest⟩
            clear HD7 HO7
            generalize w7.drewN nq = w8 at *
            go_wp2_with fail
            go_roundg 0
            case measure => omega
            case rel => exact ⟨j + k, _, _, _, _, _, _, by omega, by congr 1; have := HPE.out; omega, rfl, by omega, Lib.hid (fun h => absurd h (by omega)), HD8, HO8⟩
          · have hgk : g + 1 - k ≤ c2 - k := by omega
            go_wp2_with fail
            go_quiet (fail)
            have HD8 : Hid (Dk (w7.drewN nq) db mb { room := d.room, chg := d.chg + 1, left := d.left - 1, armed := d.armed, down := d.down, f := some { now := layL ([] : List Int) 0 b, safe := ([] : List Int), sure := false } } lo (N + 1 + (j + k)) (Sx S2 w2 (w7.drewN nq)) (some wp.heap.size) (some ⟨g6, 0, Option.none⟩) (np2 + 1) k6 (ps2 ++ [((p : Int), .slice (some ⟨g5, 0, Option.none⟩) k k5)])) := Lib.hid (HD7.out.drewN nq)
            have HO8 : Hid (Only w2 (w7.drewN nq) S2) := Lib.hid ⟨HO7.out.os, HO7.out.tape, HO7.out.output, HO7.out.size, HO7.out.rest⟩
            clear HD7 HO7
            generalize w7.drewN nq = w8 at *
            go_wp2_with fail
            go_roundg (g + 1 - k)
            case measure => omega
            case rel => exact ⟨j + k, _, _, _, _, _, _, by omega, by congr 1; have := HPE.out; omega, rfl, by omega, Lib.hid (fun _ => by rw [show bo + (j + k) = bo + j + k by omega]), HD8, HO8⟩
end
end Go.Proofs.Ytlplhllcohoeaaa
