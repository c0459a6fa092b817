/-
  What Write answers and leaves where it lays bytes.
-/
import Derived.Test.YtlplhllcohoeaaaWalke
import Derived.Test.YtlplhllcohoeaaaLoad
import Derived.Deep.RegionLaw
namespace Go.Proofs.Ytlplhllcohoeaaa
open Go.RowKit
section
variable {db mb : Nat} {d : Dv} {lo : Int} {N : Nat} {S : Nat → Prop} {F : Option Nat} {Ap : Option Addr} {np cp : Nat} {ps : List (Int × Value)}
def Dv.wrote (d : Dv) (at_ : Nat) (b : List Int) : Dv :=
  { d with left := d.left - 1, chg := d.chg + 1, f := match d.f with | none => some ⟨layL [] at_ b, [], false⟩ | some f => some ⟨layL f.now at_ b, f.safe, f.sure⟩ }
theorem Dk.more {w : World} (h : Dk w db mb d lo N S F Ap np cp ps) {N' : Nat} (hN : N ≤ N') : Dk w db mb d lo N' S F Ap np cp ps :=
  ⟨h.head, h.map, h.file, h.pend, Nat.le_trans h.pn hN, h.sd, h.sm, h.lt, h.rm, ⟨h.cg.1, by have := h.cg.2; omega⟩, ⟨by have := h.lf.1; omega, h.lf.2⟩⟩
theorem info74 : (Try.prog.info? 74).map (fun i => (i.zero, i.size, i.bytes)) = some (some (.agg #[.string ⟨#[]⟩, .int .i64 0, .slice none 0 0]), 3, 48) := by kernel_rfl
theorem own_empty (w : World) : ((w.alloc (.cells #[] 5)).drew).ownsRow 0 5 1 (.slice (some ⟨w.heap.size, 0, none⟩) 0 0) 0 [] :=
  ⟨rfl, .inr ⟨w.heap.size, 0, #[], rfl, Nat.zero_le _, heap_alloc_new w _, Nat.le_refl _, by unfold maxLen; omega, rfl, rfl⟩⟩
theorem FileAt.nf {w : World} {fb : Nat} {f : Fl} {An : Option Addr} {cn : Nat} {As : Option Addr} {cs : Nat} (h : FileAt w S fb f An cn As cs) : ¬ inA An fb := fun hx => by
  cases An with
  | none => cases hx
  | some a =>
    obtain ⟨cur, hc⟩ := own_ty h.now
    have e : a.block = fb := by injection hx
    exact ty_ne hc h.head (by decide) e
/-- One piece more is pending. -/
theorem Dk.piece {w wc w5 w6 : World} {S0 : Nat → Prop} {Ap2 : Option Addr} {np2 cp2 : Nat} {ps2 : List (Int × Value)} (h : Dk wc db mb d lo N (Sx S0 w wc) F Ap2 np2 cp2 ps2) {g5 k5 k p : Nat} {l : List Int} (hO : OwnB w5 wc.heap.size (some ⟨g5, 0, none⟩) k k5 l) (hb5 : Below wc.heap.size wc w5) (hl : 0 < l.length ∧ (p : Int) + l.length ≤ 1099511627776) (hp : (p : Int) ≤ 1099511627776) (hlo : lo ≤ p)
    {g6 c6 : Nat} (hown : w6.ownsRow 0 74 3 (.slice (some ⟨g6, 0, none⟩) (np2 + 1) c6) (np2 + 1) (pcells ps2 ++ [.string tl, .int .i64 (p : Int), .slice (some ⟨g5, 0, none⟩) k k5])) (hgrow : (w5.alloc (.cells #[.string tl, .int .i64 (p : Int), .slice (some ⟨g5, 0, none⟩) k k5] 74)).grownBy w6 (Value.slice Ap2 np2 cp2).ownBlock)
    (hat : (Value.slice Ap2 np2 cp2).ownBlock = some g6 ∨ g6 = w5.heap.size + 1) (hlt6 : g6 < w6.heap.size) (hw : w.heap.size ≤ wc.heap.size) {N' : Nat} (hN : N ≤ N') (hn : np2 + 1 ≤ N') (w7 : World) (hw7 : w7 = w6.setCell ⟨db, 6, none⟩ (.slice (some ⟨g6, 0, none⟩) (np2 + 1) c6)) :
    Dk w7 db mb d lo N' (Sx S0 w w7) F (some ⟨g6, 0, none⟩) (np2 + 1) c6 (ps2 ++ [((p : Int), .slice (some ⟨g5, 0, none⟩) k k5)]) ∧ Only wc w7 (Sx S0 w wc) := by
  obtain ⟨cur, hcur, hg5⟩ := own_cells hO
  have hg5lt := (Array.getElem?_eq_some_iff.1 hcur).1
  have hs5 := hb5.size
  have hs6 := hgrow.size
  simp at hs6
  have hs7 : w7.heap.size = w6.heap.size := by subst hw7; simp
  have hrow : ∀ x, (Value.slice Ap2 np2 cp2).ownBlock = some x → inA Ap2 x := fun x e => own_in.1 e
  have hinlt : ∀ x, inA Ap2 x → x < wc.heap.size := fun x hx => by
    cases Ap2 with
    | none => cases hx
    | some a => injection hx with hx; subst hx; exact h.lt _ (h.pend.sp a rfl)
  have hO6 : Only wc w6 (inA Ap2) := (Only.of_below (hb5.alloc hb5.size _)).trans ((Only.of_grown hgrow).mono fun g _ e => hrow g e.symm)
  have hS : ∀ g, Sx S0 w wc g → Sx S0 w w7 g := fun g hg => hg.elim .inl fun h1 => .inr ⟨h1.1, by omega⟩
  have hty : ∀ x, inA Ap2 x → ∃ cur, wc.heap[x]? = some (.cells cur 74 (0, 0)) := fun x hx => by
    cases Ap2 with
    | none => cases hx
    | some a => injection hx with hx; subst hx; exact row_ty h.pend.row
  subst hw7
  refine h.pended hO6 hS (fun g hg => ?_) ⟨by simpa [pcells] using hown, by have := h.pend.len; simp [this], ?_, fun a e => ?_⟩ ?_ hN hn
  · rcases hg with hg | hg
    · have := h.lt g (.inl hg); omega
    · have := hg.2; omega
  · intro q hq
    rcases List.mem_append.1 hq with hq | hq
    · refine (h.pend.all q hq).keepP hO6 hS (fun a n c hv hx => ?_)
      obtain ⟨cu, hc⟩ := (h.pend.all q hq).ty hv
      obtain ⟨cu2, hc2⟩ := hty _ hx
      exact ty_ne hc hc2 (by decide) rfl
    · simp at hq
      subst hq
      have hk : l.length = k := hO.1
      subst hk
      refine ⟨hlo, by simp only; omega, hp, .inr ⟨⟨g5, 0, none⟩, l, k5, rfl, ?_, .inr ⟨by show w.heap.size ≤ g5; omega, by show g5 < _; omega⟩, hl⟩⟩
      have hx : OwnB w6 wc.heap.size (some ⟨g5, 0, none⟩) l.length k5 l := (hO.alloc _).grown hgrow (fun a e e2 => by cases e; have := hinlt _ (hrow _ e2.symm); simp only at this; omega)
      exact hx.mono (Nat.zero_le _)
  · cases e
    rcases hat with hx | hx
    · have hi := hrow _ hx
      cases Ap2 with
      | none => cases hi
      | some a =>
        injection hi with hi
        have hh := hS a.block (h.pend.sp a rfl)
        rw [hi] at hh
        exact hh
    · exact .inr ⟨by show w.heap.size ≤ g6; omega, by show g6 < _; omega⟩
  · intro An hAn hap q hq
    rcases List.mem_append.1 hq with hq | hq
    · exact hap q hq
    · simp at hq
      subst hq
      intro a n c b hv e
      injection hv with hv _ _
      injection hv with hv
      subst hv
      have := hAn b e
      show b.block ≠ g5
      omega
theorem only_up {w2 wc w7 : World} {S0 : Nat → Prop} (h : Only w2 wc S0) (h' : Only wc w7 (Sx S0 w2 wc)) : Only w2 w7 S0 :=
  ⟨h'.os.trans h.os, h'.tape.trans h.tape, h'.output.trans h.output, Nat.le_trans h.size h'.size, fun g h1 h2 => (h'.rest g (Nat.lt_of_lt_of_le h1 h.size) (fun hx => hx.elim h2 fun h3 => by omega)).trans (h.rest g h1 h2)⟩
set_option maxRecDepth 40000 in
set_option maxHeartbeats 3000000 in
theorem Write_file (w : World) {fb : Nat} (h : Dk w db mb d lo N S (some fb) Ap np cp ps) (hd : d.down = false) (at_ : Nat) (hat : (at_ : Int) = d.sum) (A : Option Addr) (n c : Nat) (b : List Int) (hn : 0 < n) (hb : at_ + n ≤ 1099511627776)
    (hlen : b.length = n) (hcap : n ≤ c) (hr : RdB w w.heap.size A b) (hsep : ∀ a, A = some a → ¬ S a.block) (hN : N + n + 2 ≤ 1099511627776) (hlo : lo ≤ at_)
    (hf : ¬ d.room < (at_ : Int) + n) (ha : ¬ (d.armed = true ∧ d.left = 0)) :
    Calls Try.prog 17 #[.pointer (some ⟨db, 0, none⟩), .string tl, .int .i64 at_, .slice A n c] w fun e w' => e = .returned (.int .i64 0) ∧
      (∃ Ap' np' cp' ps', Dk w' db mb (d.wrote at_ b) lo (N + n + 2) (Sx S w w') (some fb) Ap' np' cp' ps') ∧ Only w w' S := by
  obtain ⟨i0, hi, hz0, hz1, hz2⟩ := info_parts info5
  have hm := may_file w false h hd
  obtain ⟨f, An, cn, As, cs, q1, hff, hap⟩ := h.fat
  have q : d.sum = f.now.length := by simp [Dv.sum, q1]
  obtain ⟨f0, _, _⟩ := hff.cells
  have hnl : f.now.length = at_ := by omega
  have hft := fits_file w h ((at_ : Int) + n) (by omega) (by omega)
  rw [show fitE d ((at_ : Int) + n) = 0 from if_neg (fun h => hf h.2)] at hft
  rw [hnl] at f0
  have q2 : IntKind.i64.wrap ((at_ : Int) + n) = (at_ : Int) + n := IntWalk.i64_in _ (by omega)
  have q3 : (at_ : Int) < (at_ : Int) + n := by omega
  have q4 : ¬ n = 0 := by omega
  have HNL := Lib.hid hnl
  have HH := Lib.hid h; have HF := Lib.hid hff; have HAP := Lib.hid hap; have HQ1 := Lib.hid q1; have HR := Lib.hid hr; have HSEP := Lib.hid hsep; have HHA := Lib.hid ha; have HLEN := Lib.hid hlen
  clear h hff q q1 hat hf hap hr hsep ha hlen
  clear hnl
  have g0 : decide ((at_ : Int) < 0) = false := decide_eq_false (by omega)
  go_enter Try.func17, Try.ntmps17
  go_wp2_with fail
  refine hm.mono ?_
  rintro e w1 ⟨rfl, rfl⟩
  clear hm
  go_wp2_with fail
  refine hft.mono ?_
  rintro e w1 ⟨rfl, hbb⟩
  have HD1 := Lib.hid (HH.out.up hbb)
  have HO1 : Hid (Only w w1 S) := Lib.hid (Only.of_below hbb)
  clear hft hbb
  go_wp2_with fail
  refine (change_on w1 HD1.out (by omega) HHA.out).mono ?_
  rintro e w2 ⟨rfl, hd2, hf2⟩
  have HD2 := Lib.hid hd2
  have HO2 := Lib.hid (HO1.out.trans hf2.only)
  clear hd2 hf2 HD1 HO1
  obtain ⟨f', An', cn', As', cs', q1', hff', hap'⟩ := HD2.out.fat
  obtain rfl : f' = f := by
    have h1 : d.f = some f' := q1'
    rw [HQ1.out] at h1
    injection h1 with h1
    exact h1.symm
  obtain ⟨f0', _, _⟩ := hff'.cells
  have fz := hff'.froz 0
  rw [HNL.out] at f0'
  have HF' := Lib.hid hff'; have HAP' := Lib.hid hap'
  clear hff' hap' f0 q1'
  go_wp2_with fail
  have hO0 := HF'.out.now
  rw [HNL.out] at hO0
  have hRB2 : RdB w2 w2.heap.size A b := HR.out.keepS HO2.out.size (fun a e => by
    by_cases hlt : a.block < w.heap.size
    · exact HO2.out.rest _ hlt (HSEP.out a e)
    · obtain ⟨x0, hx0⟩ := get_some b 0 (by have := HLEN.out; omega)
      obtain ⟨bb, bo, e2, hbb, _⟩ := HR.out 0 x0 hx0
      rw [e] at e2; injection e2 with e2; subst e2
      exact absurd hbb hlt)
  refine (lay_any w2 An' at_ cn' f'.now at_ A n c b hO0 hRB2 HLEN.out hn (fun a e hx => ?_) (by omega) (by omega)).mono ?_
  · cases An' with
    | none => cases hx
    | some b' => injection hx with hx; exact HSEP.out a e (by rw [← hx]; exact HF'.out.sn b' rfl)
  rintro e wl ⟨A', n', c', rfl, hOl, hFr⟩
  have hfb2 : wl.heap[fb]? = w2.heap[fb]? := (hFr.beside fb (HD2.out.lt _ HF'.out.sf) HF'.out.nf).1
  have fl0 := (World.cell?_of_block (w := w2) (w' := wl) (a := ⟨fb, 0, none⟩) hfb2).trans f0'
  have flz := (World.frozen?_of_block (w := w2) (w' := wl) (a := ⟨fb, 0, none⟩) hfb2).trans fz
  obtain ⟨hd3, ho3⟩ := HD2.out.laid (w1 := wl) HQ1.out HF'.out HAP'.out hFr hOl (by rw [layL_len, HNL.out, HLEN.out]; omega)
  have HD3 := Lib.hid hd3
  have HO3 : Hid (Only w (wl.setCell ⟨fb, 0, none⟩ (.slice A' n' c')) S) := Lib.hid (HO2.out.trans ho3)
  have HO2s := Lib.hid ho3
  clear hd3 ho3 hOl hFr hfb2 hRB2 hO0 f0' fz
  go_wp2_with fail
  generalize wl.setCell ⟨fb, 0, none⟩ (.slice A' n' c') = w3 at *
  clear fl0 flz
  obtain ⟨x0, hx0⟩ := get_some b 0 (by have := HLEN.out; omega)
  obtain ⟨bb, bo, rfl, hbb, _⟩ := HR.out 0 x0 hx0
  clear hx0
  have hSb := HSEP.out _ rfl
  have HSB : Hid (¬ S bb) := Lib.hid hSb
  clear hSb
  go_loopg [2, 3] n (fun g va vb wr => ∃ (j : Nat) (A2 : Option Addr) (c2 : Nat) (Ap2 : Option Addr) (np2 cp2 : Nat) (ps2 : List (Int × Value)), j + g = n ∧ va = .int .i64 ((at_ + j : Nat) : Int) ∧ vb = .slice A2 g c2 ∧ g ≤ c2 ∧ Hid (0 < g → A2 = some ⟨bb, bo + j, none⟩) ∧
    Hid (Dk wr db mb { room := d.room, chg := d.chg + 1, left := d.left - 1, armed := d.armed, down := d.down, f := some { now := layL f'.now at_ b, safe := f'.safe, sure := f'.sure } } lo (N + 1 + j) (Sx S w2 wr) (some fb) Ap2 np2 cp2 ps2) ∧ Hid (Only w2 wr S))
  case atStart => exact ⟨0, _, c, Ap, np, cp, ps, by omega, rfl, rfl, hcap, Lib.hid fun _ => rfl, HD3, HO2s⟩
  case round =>
    obtain ⟨j, A2, c2, Ap2, np2, cp2, ps2, hj, rfl, rfl, hc2, HA2, HDr, HOr⟩ := hrel
    cases gk with
    | zero =>
      obtain rfl : j = n := by omega
      go_wp2_with fail
      go_ret
      have hsz := HO2.out.size
      have hsz2 := HOr.out.size
      have e : d.wrote at_ b = { room := d.room, chg := d.chg + 1, left := d.left - 1, armed := d.armed, down := d.down, f := some { now := layL f'.now at_ b, safe := f'.safe, sure := f'.sure } } := by
        unfold Dv.wrote; rw [HQ1.out]
      refine ⟨rfl, ⟨Ap2, np2, cp2, ps2, ?_⟩, HO2.out.trans HOr.out⟩
      rw [e]
      exact (HDr.out.wide (S' := Sx S w wr) (fun g hg => hg.elim .inl fun h1 => .inr ⟨by omega, h1.2⟩) (Sx.lt HH.out.lt (by omega))).more (by omega)
    | succ g =>
      obtain ⟨_, _, _, _, _, _, c6⟩ := HDr.out.cells
      have z6 := HDr.out.froz 6
      obtain rfl := HA2.out (by omega)
      obtain ⟨p, hp⟩ : ∃ p : Nat, at_ + j = p := ⟨_, rfl⟩
      rw [hp]
      have HPE := Lib.hid hp
      have hpb : p ≤ 1099511627776 := by omega
      clear hp
      go_upto_region 22 with (fail)
      go_cut [12] (fun v wx => ∃ k : Nat, v = .int .i64 k ∧ 1 ≤ k ∧ k ≤ g + 1 ∧ wx = wr)
      case first =>
        go_wp2_with fail
        all_goals go_meet
        · exact ⟨64 - p % 64, by simp; omega, by omega, by omega, rfl⟩
        · exact ⟨g + 1, by simp, by omega, by omega, rfl⟩
      case rest =>
        obtain ⟨k, rfl, hk1, hk2, rfl⟩ := hcut
        have kl : (0 : Int) ≤ (k : Int) := Int.natCast_nonneg _
        have kc : (k : Int) ≤ (c2 : Int) := by omega
        have hpl : ((b.drop j).take k).length = k := by rw [List.length_take, List.length_drop, HLEN.out]; omega
        have HPL := Lib.hid hpl
        have hRBc : RdB wc wc.heap.size (some ⟨bb, bo + j, Option.none⟩) ((b.drop j).take k) := by
          refine (HR.out.keepS (w' := wc) (B' := wc.heap.size) (by have h1 := HO2.out.size; have h2 := HOr.out.size; omega) (fun a e => ?_)).piece j k
          cases e
          exact (HO2.out.trans HOr.out).rest _ hbb HSB.out
        have HRB := Lib.hid hRBc
        obtain ⟨i7, hi7, hy0, hy1, hy2⟩ := info_parts info74
        have hdbc := HDr.out.lt _ HDr.out.sd
        have hnp2 : np2 ≤ N + 1 + j := HDr.out.pn
        have hb0 : Below wc.heap.size wc wc.drew := belowDrewN (Below.refl _ _) 1
        have hb1 := lit_below wc
        have hdb0 : db < wc.drew.heap.size := hdbc
        have HDB6 : Hid (some db ≠ (Value.slice Ap2 np2 cp2).ownBlock) := Lib.hid (fun e => by
          cases Ap2 with
          | none => cases e
          | some a =>
            obtain ⟨cur, hc⟩ := row_ty HDr.out.pend.row
            have e2 : db = a.block := by simpa [Value.ownBlock] using e
            exact ty_ne hc HDr.out.head (by decide) e2.symm)
        clear hRBc hpl
        go_wp2_with fail
        go_region_law (first
            | (refine step_append_litB (by rfl) (.tmp 92) (.tmp 95) (by rfl) wc (by first | exact hb1 | exact (Below.refl _ _).alloc (Nat.le_refl _) _) _ (by rfl) (by first | exact lit_one _) (by omega) (some ⟨bb, bo + j, Option.none⟩) k c2 ((b.drop j).take k) (by rfl) HPL.out HRB.out (by simp) (by omega) ?_; intro g5 k5 w5 hown5 hgrow5 hat5 hlt5 hb5; have c65 := (hb5.cell (p := ⟨db, 6, Option.none⟩) hdbc).trans c6; have z65 := (hb5.frozen (p := ⟨db, 6, Option.none⟩) hdbc).trans z6; have hdb5 : db < w5.heap.size := Nat.lt_of_lt_of_le hdbc hb5.size; have HROW5 : Hid (w5.ownsRow 0 74 3 (.slice Ap2 np2 cp2) np2 (pcells ps2)) := Lib.hid (row_keep HDr.out.pend.row (fun a e => hb5.block _ (HDr.out.lt _ (HDr.out.pend.sp a e)))))
            | (refine step_append_lies _ (by rfl) (.tmp 89) (.tmp 98) 57 (by rfl) 0 74 i7 _ 3 48 Try.underlying57 hi7 hy0 hy1 hy2 rfl (by omega) (.slice Ap2 np2 cp2) np2 (pcells ps2) (by rfl) (HROW5.out.alloc _) ⟨w5.heap.size, 0, none⟩ 1 1 [.string tl, .int .i64 p, .slice (some ⟨g5, 0, Option.none⟩) k k5] (by rfl) (by rfl) (World.news_of_block (heap_alloc_new _ _)) (by simp [Value.oneCell']) (by omega) (by unfold maxLen; omega) (by omega) (by simp) (w5.heap.size + 1) (by simp) ?_; intro g6 k6 w6 hown6 hgrow6 hat6 hlt6; have c66 := (hgrow6.cell_far ⟨db, 6, Option.none⟩ (by simp; omega) HDB6.out).trans ((World.cell?_alloc_lt _ _ _ hdb5).trans c65); have z66 := (hgrow6.frozen_far ⟨db, 6, Option.none⟩ (by simp; omega) HDB6.out).trans (((Below.refl w5.heap.size w5).alloc (Nat.le_refl _) _).frozen (p := ⟨db, 6, Option.none⟩) hdb5 |>.trans z65)))
        all_goals
          have hlop : lo ≤ (p : Int) := by have := HPE.out; omega
          obtain ⟨hd7, ho7⟩ := Dk.piece (S0 := S) (w := w2) HDr.out hown5 hb5 (by rw [HPL.out]; have := HPE.out; omega) (by omega) hlop hown6 hgrow6 hat6 hlt6 HOr.out.size (N' := N + 1 + (j + k)) (by omega) (by omega) _ rfl
          have HD7 := Lib.hid hd7
          have HO7 := Lib.hid (only_up HOr.out ho7)
          clear hd7 ho7 hown5 hown6 hgrow5 hgrow6 hat5 hat6 hlt5 hlt6 hb5 c65 z65 hdb5 HROW5 c66 z66 HDr HOr c6 z6 hb0 hb1 hdb0 HDB6 HRB HPL hdbc hlop
          generalize w6.setCell ⟨db, 6, none⟩ (.slice (some ⟨g6, 0, none⟩) (np2 + 1) k6) = w7 at *
          have q7 : IntKind.i64.wrap ((p : Int) + k) = (p : Int) + k := IntWalk.i64_in _ (by omega)
          have hk3 : (k : Int) ≤ ((g + 1 : Nat) : Int) := by omega
          have hk4 : ((g + 1 : Nat) : Int) ≤ (c2 : Int) := by omega
          by_cases hck : c2 = k
          · have hgk : g + 1 - k = 0 := by omega
            go_wp2_with fail
            go_quiet (fail)
            have HD8 : Hid (Dk (w7.drewN nq) db mb { room := d.room, chg := d.chg + 1, left := d.left - 1, armed := d.armed, down := d.down, f := some { now := layL f'.now at_ b, safe := f'.safe, sure := f'.sure } } lo (N + 1 + (j + k)) (Sx S w2 (w7.drewN nq)) (some fb) (some ⟨g6, 0, Option.none⟩) (np2 + 1) k6 (ps2 ++ [((p : Int), .slice (some ⟨g5, 0, Option.none⟩) k k5)])) := Lib.hid (HD7.out.drewN nq)
            have HO8 : Hid (Only w2 (w7.drewN nq) S) := Lib.hid ⟨HO7.out.os, HO7.out.tape, HO7.out.output, HO7.out.size, HO7.out.rest⟩
            clear HD7 HO7
            generalize w7.drewN nq = w8 at *
            go_wp2_with fail
            go_roundg 0
            case measure => omega
            case rel => exact ⟨j + k, _, _, _, _, _, _, by omega, by congr 1; have := HPE.out; omega, rfl, by omega, Lib.hid (fun h => absurd h (by omega)), HD8, HO8⟩
          · have hgk : g + 1 - k ≤ c2 - k := by omega
            go_wp2_with fail
            go_quiet (fail)
            have HD8 : Hid (Dk (w7.drewN nq) db mb { room := d.room, chg := d.chg + 1, left := d.left - 1, armed := d.armed, down := d.down, f := some { now := layL f'.now at_ b, safe := f'.safe, sure := f'.sure } } lo (N + 1 + (j + k)) (Sx S w2 (w7.drewN nq)) (some fb) (some ⟨g6, 0, Option.none⟩) (np2 + 1) k6 (ps2 ++ [((p : Int), .slice (some ⟨g5, 0, Option.none⟩) k k5)])) := Lib.hid (HD7.out.drewN nq)
            have HO8 : Hid (Only w2 (w7.drewN nq) S) := Lib.hid ⟨HO7.out.os, HO7.out.tape, HO7.out.output, HO7.out.size, HO7.out.rest⟩
            clear HD7 HO7
            generalize w7.drewN nq = w8 at *
            go_wp2_with fail
            go_roundg (g + 1 - k)
            case measure => omega
            case rel => exact ⟨j + k, _, _, _, _, _, _, by omega, by congr 1; have := HPE.out; omega, rfl, by omega, Lib.hid (fun _ => by rw [show bo + (j + k) = bo + j + k by omega]), HD8, HO8⟩
end
end Go.Proofs.Ytlplhllcohoeaaa
