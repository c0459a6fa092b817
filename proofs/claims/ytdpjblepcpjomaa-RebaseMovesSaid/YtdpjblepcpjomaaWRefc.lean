/-
  What the reference's Rescue answers (of lists that may be, of at most 50000 bytes).
-/
import Derived.Test.YtdpjblepcpjomaaWRefb
namespace Go.Proofs.Ytdpjblepcpjomaa.Rb
open Go.RowKit
/-- The bytes of the original that are met and not in the target, one by one. -/
structure Miss (T : List S) (bs : List B) (O : List R) : Prop where
  ne : Ne O
  ir : IR O
  len : O.length ≤ bs.length
  mem : ∀ x, In O x ↔ ((0, x) ∈ bs ∧ (0, x) ∉ Sc.bts T)
theorem Miss.nil (T : List S) : Miss T [] [] := ⟨fun r hr => by simp at hr, fun r hr => by simp at hr, Nat.le_refl _, fun x => ⟨fun h => absurd h (in_nil x), fun h => by simp at h⟩⟩
theorem Miss.skip {T : List S} {bs cs : List B} {O : List R} (h : Miss T bs O) (hc : ∀ x, (0, x) ∈ cs → (0, x) ∈ Sc.bts T) : Miss T (bs ++ cs) O :=
  ⟨h.ne, h.ir, by rw [List.length_append]; have := h.len; omega, fun x => by
    rw [h.mem, List.mem_append]
    exact ⟨fun h1 => ⟨.inl h1.1, h1.2⟩, fun h1 => ⟨h1.1.resolve_right fun h2 => h1.2 (hc x h2), h1.2⟩⟩⟩
theorem Miss.hit {T : List S} {bs : List B} {O : List R} (h : Miss T bs O) {y : Int} (hy : (0, y) ∉ Sc.bts T) (hi : I64 y) (hi2 : I64 (y+1)) : Miss T (bs ++ [(0, y)]) (O ++ [(y, y+1)]) := by
  refine ⟨fun r hr => ?_, h.ir.append fun r hr => ?_, by simp [h.len], fun x => ?_⟩
  · rcases List.mem_append.1 hr with hr | hr
    · exact h.ne r hr
    · simp at hr; subst hr; simp only; omega
  · simp at hr; subst hr; exact ⟨hi, hi2⟩
  · rw [in_append, in_one, h.mem, List.mem_append]
    simp only [List.mem_singleton, Prod.mk.injEq, true_and]
    constructor
    · rintro (h1 | h1)
      · exact ⟨.inl h1.1, h1.2⟩
      · have : x = y := by omega
        subst this
        exact ⟨.inr rfl, hy⟩
    · rintro ⟨h1 | h1, h2⟩
      · exact .inl ⟨h1, h2⟩
      · exact .inr (by omega)
theorem sb_snoc (s : S) (d : Nat) : Sc.sb ⟨s.src, s.at_, ((d + 1 : Nat) : Int)⟩ = Sc.sb ⟨s.src, s.at_, (d : Int)⟩ ++ [(s.src, s.at_ + (d : Int))] := by
  have := Sc.sb_add s.src s.at_ (d : Int) 1 (by omega) (by omega)
  rw [show ((d + 1 : Nat) : Int) = (d : Int) + 1 by omega, this]
  congr 1
  simp [Sc.sb]
theorem miss_end {T : List S} {ls : List (List S)} {O : List R} (h : Miss T (Sc.bts ls.flatten) O) (hl : ∀ l ∈ ls, Sc.Ok l) : nl (O.foldl jstep []) = rescueR T ls := by
  obtain ⟨h1, h2⟩ := joinR_in O [] (fun r hr => by simp at hr) h.ne
  refine (nl_is _).uniq (rescue_is hl) fun x => ?_
  rw [h2, h.mem]
  constructor
  · rintro ⟨_, h3 | h3⟩
    · exact absurd h3 (in_nil x)
    · exact h3
  · intro h3
    refine ⟨?_, .inr h3⟩
    obtain ⟨s, hs, _, h4, _⟩ := (mem_bts _ _ _).1 h3.1
    obtain ⟨l, hl', hs⟩ := List.mem_flatten.1 hs
    have := hl l hl' s hs
    unfold Sc.okS at this; omega
set_option maxHeartbeats 3200000 in
set_option maxRecDepth 100000 in
theorem refRescue_any (A : Option Addr) (len cap : Nat) (A2 : Option Addr) (len2 cap2 : Nat) (w : World) (T : List S) (ls : List (List S)) (hlen : T.length = len) (hr : Sc.Rd w w.heap.size A T)
    (hlen2 : ls.length = len2) (hr2 : Sc.RdL w w.heap.size A2 ls) (hm2 : len2 ≤ 100000) (hT : MayX T) (hl : ∀ l ∈ ls, MayX l) (hf : Sc.tot ls.flatten ≤ 50000) :
    Calls Try.prog 15 #[.slice A len cap, .slice A2 len2 cap2] w fun e w' => (∃ A' n c, e = .returned (.slice A' n c) ∧ Own w' w.heap.size A' n c (rescueR T ls)) ∧ Below w.heap.size w w' := by
  obtain ⟨i0, hi, hz0, hz1, hz2⟩ := info_parts info29
  have H := Lib.hid hlen; have HR := Lib.hid hr; have H2 := Lib.hid hlen2; have HR2 := Lib.hid hr2; have HF := Lib.hid hf; have HT := Lib.hid hT; have HL := Lib.hid hl
  have HOF := Lib.hid (flat_okk hl)
  clear hlen hr hlen2 hr2 hf hT hl
  go_enter Try.func15, Try.ntmps15
  go_wp2_with fail
  generalize hBB : w.heap.size = BB at *
  have HB := Lib.hid hBB; clear hBB
  go_loopw [5, 6] (fun v i wr => ∃ k n A' c O, k ≤ len2 ∧ i = .int .i64 k ∧ v = .slice A' n c ∧ Own wr BB A' n c O ∧ Hid (Miss T (Sc.bts (ls.take k).flatten) O) ∧ Below BB w wr) (fun _ i _ => len2 - (intOf i).toNat)
  case atStart => exact ⟨0, 0, _, _, [], Nat.zero_le _, rfl, rfl, Own.nil _ _, Lib.hid (Miss.nil T), Below.refl _ _⟩
  case round =>
    obtain ⟨k, n, A', c, O, hk, rfl, rfl, hown, HMs, hb⟩ := hrel
    have hsz : BB ≤ wr.heap.size := by have := hb.size; have := HB.out; omega
    have HOw := Lib.hid hown; have HBel := Lib.hid hb
    by_cases hlt : k < len2
    · obtain ⟨l, hl⟩ := Sc.get_some ls k (by have := H2.out; omega)
      obtain ⟨b, off, Ak, ck, rfl, hb', c0, hrl⟩ := HR2.out.below hb (Nat.le_refl _) k l hl
      have RL := Lib.hid hrl
      have HLk := Lib.hid hl
      have hMl := Lib.hid (HL.out l (List.mem_of_getElem? hl))
      have hlt9 := Sc.len_le_tot l hMl.out.2.1
      have htl9 := hMl.out.2.2
      have hfl := Lib.hid (Sc.flat_take hl)
      clear hl hrl hown hb
      generalize hLN : l.length = LN at *
      have HLN := Lib.hid hLN; clear hLN
      have hLNb : LN ≤ 1099511627776 := by omega
      have HW0 := Lib.hid (show wr.cell? ⟨b, off + k, none⟩ = some (.slice Ak LN ck) from c0)
      clear c0 htl9 hlt9
      go_wp2_with fail
      go_loopw [5, 7] (fun v i wx => ∃ j n2 A3 c3 O2, j ≤ LN ∧ i = .int .i64 j ∧ v = .slice A3 n2 c3 ∧ Own wx BB A3 n2 c3 O2 ∧ Hid (Miss T (Sc.bts (ls.take k).flatten ++ Sc.bts (l.take j)) O2) ∧ Below BB wr wx) (fun _ i _ => LN - (intOf i).toNat)
      case atStart => exact ⟨0, n, A', c, O, Nat.zero_le _, rfl, rfl, HOw.out, by simpa [Sc.bts] using HMs, Below.refl _ _⟩
      case round =>
        obtain ⟨j, n2, A3, c3, O2, hj, rfl, rfl, hown2, HM2, hb2⟩ := hrel
        have hsz2 : BB ≤ wr.heap.size := by have := hb2.size; omega
        have HO2 := Lib.hid hown2
        have HB2 := Lib.hid (HBel.out.trans hb2)
        have HBx := Lib.hid hb2
        have y0 : wr.cell? ⟨b, off + k, none⟩ = some (.slice Ak LN ck) := (hb2.cell (p := ⟨b, off + k, none⟩) hb').trans HW0.out
        by_cases hlt2 : j < LN
        · obtain ⟨s, hs⟩ := Sc.get_some l j (by have := HLN.out; omega)
          obtain ⟨b5, off5, hA5, hb5', h0, h1, h2⟩ := RL.out.below hb2 (Nat.le_refl _) j s hs
          have hok := hMl.out.2.1.at_ hs
          unfold Sc.okS at hok
          have HSk := Lib.hid hs
          subst hA5
          clear hs hown2 hb2
          obtain ⟨sl, hsl⟩ : ∃ sl : Nat, s.len = (sl : Int) := ⟨s.len.toNat, by omega⟩
          rw [hsl] at hok h2
          have HSL := Lib.hid hsl
          clear hsl
          by_cases hc : s.src = 0
          · have HC := Lib.hid hc
            rw [hc] at h0
            clear hc
            go_wp2_with fail
            have hx0 : ∀ i : Nat, (wr.alloc (.cells #[.int .i64 0, .int .i64 s.at_, .int .i64 (sl : Int)] 56)).cell? ⟨wr.heap.size, i, none⟩ = (#[.int .i64 0, .int .i64 s.at_, .int .i64 (sl : Int)] : Array Value)[i]? := fun i => cell_new _ _ _ _
            have HX0 := Lib.hid (show (wr.alloc (.cells #[.int .i64 0, .int .i64 s.at_, .int .i64 (sl : Int)] 56)).cell? ⟨wr.heap.size, 0, none⟩ = some (.int .i64 0) ∧ (wr.alloc (.cells #[.int .i64 0, .int .i64 s.at_, .int .i64 (sl : Int)] 56)).cell? ⟨wr.heap.size, 1, none⟩ = some (.int .i64 s.at_) ∧ (wr.alloc (.cells #[.int .i64 0, .int .i64 s.at_, .int .i64 (sl : Int)] 56)).cell? ⟨wr.heap.size, 2, none⟩ = some (.int .i64 (sl : Int)) from ⟨hx0 0, hx0 1, hx0 2⟩)
            have HO3 := Lib.hid (HO2.out.alloc (.cells #[.int .i64 0, .int .i64 s.at_, .int .i64 (sl : Int)] 56))
            have HB3 := Lib.hid (HB2.out.alloc hsz2 (.cells #[.int .i64 0, .int .i64 s.at_, .int .i64 (sl : Int)] 56))
            have HBy := Lib.hid (HBx.out.alloc hsz2 (.cells #[.int .i64 0, .int .i64 s.at_, .int .i64 (sl : Int)] 56))
            have hX3 : (Value.slice A3 n2 c3).ownBlock ≠ some wr.heap.size := fun e => by have := (HO2.out.2.lt _ e).2; omega
            have hz3 : wr.heap.size < (wr.alloc (.cells #[.int .i64 0, .int .i64 s.at_, .int .i64 (sl : Int)] 56)).heap.size := by simp
            clear hx0 h0 h1 h2 y0
            generalize (wr.alloc (.cells #[.int .i64 0, .int .i64 s.at_, .int .i64 (sl : Int)] 56)) = W3 at *
            generalize hGS : wr.heap.size = GS at *
            generalize hX0 : (Value.slice A3 n2 c3).ownBlock = X0 at *
            have HX3 := Lib.hid hX0
            clear hX0 hGS HO2 HB2 HBx
            go_loopw [5, 9] (fun v i wy => ∃ d n4 A4 c4 O4, d ≤ sl ∧ i = .int .i64 (s.at_ + (d : Int)) ∧ v = .slice A4 n4 c4 ∧ Own wy BB A4 n4 c4 O4 ∧ Hid (Miss T ((Sc.bts (ls.take k).flatten ++ Sc.bts (l.take j)) ++ Sc.sb ⟨s.src, s.at_, (d : Int)⟩) O4) ∧ Fr W3 X0 wy (Value.slice A4 n4 c4).ownBlock ∧ Below BB W3 wy) (fun _ i _ => (s.at_ + (sl : Int) - intOf i).toNat)
            case atStart => exact ⟨0, n2, A3, c3, O2, Nat.zero_le _, by simp, rfl, HO3.out, by simpa [Sc.sb] using HM2, HX3.out ▸ Fr.refl _ _, Below.refl _ _⟩
            case round =>
              obtain ⟨d, n4, A4, c4, O4, hd, rfl, rfl, hown4, HM4, hfr, hb4⟩ := hrel
              have x0 := (hfr.cell (p := ⟨GS, 0, none⟩) hz3 hX3).trans HX0.out.1
              have x1 := (hfr.cell (p := ⟨GS, 1, none⟩) hz3 hX3).trans HX0.out.2.1
              have x2 := (hfr.cell (p := ⟨GS, 2, none⟩) hz3 hX3).trans HX0.out.2.2
              have hz4 : GS < wr.heap.size := Nat.lt_of_lt_of_le hz3 hfr.size
              have hsz4 : BB ≤ wr.heap.size := by omega
              have HO4 := Lib.hid hown4; have HF4 := Lib.hid hfr; have HB4 := Lib.hid hb4
              by_cases hlt4 : d < sl
              · have hs5 : s.at_ + (d : Int) < s.at_ + (sl : Int) := by omega
                have R4 := Lib.hid ((HR.out.below (HB3.out.trans hb4) (Nat.le_refl _)).more hsz4)
                have hi1 : I64 (s.at_ + (d : Int)) := by unfold I64; omega
                have hi2 : I64 (s.at_ + (d : Int) + 1) := by unfold I64; omega
                have HI1 := Lib.hid hi1; have HI2 := Lib.hid hi2
                clear hown4 hfr hb4 hi1 hi2
                go_wp2_with fail
                refine (place_any A len cap 0 (s.at_ + (d : Int)) _ T H.out R4.out HT.out.2 (by omega) (by omega)).mono ?_
                rintro e w5 ⟨rfl, hb5⟩
                have HO5 := Lib.hid (HO4.out.up hb5)
                have HF5 := Lib.hid (HF4.out.trans (Fr.below hb5 _))
                have HB5 := Lib.hid (HB4.out.trans (hb5.mono hsz4))
                have hsz5 : BB ≤ w5.heap.size := Nat.le_trans hsz4 hb5.size
                clear hb5 x0 x1 x2
                have HSB := Lib.hid (sb_snoc s d)
                by_cases hm : (0, s.at_ + (d : Int)) ∈ Sc.bts T
                · have hp : ¬ posI (Sc.bts T) (0, s.at_ + (d : Int)) < 0 := fun h => posI_mem.1 h hm
                  have HM5 : Hid (Miss T ((Sc.bts (ls.take k).flatten ++ Sc.bts (l.take j)) ++ Sc.sb ⟨s.src, s.at_, ((d + 1 : Nat) : Int)⟩) O4) := Lib.hid (by
                    rw [HSB.out, ← List.append_assoc]
                    refine HM4.out.skip fun x hx => ?_
                    simp at hx
                    obtain ⟨_, rfl⟩ := hx
                    exact hm)
                  clear hm
                  generalize posI (Sc.bts T) (0, s.at_ + (d : Int)) = PP at *
                  go_wp2_with fail
                  go_roundw
                  case rel => exact ⟨d+1, n4, A4, c4, O4, by omega, by congr 1; omega, rfl, HO5.out, HM5, HF5.out, HB5.out⟩
                  case measure => simp [intOf]; omega
                · have hp : posI (Sc.bts T) (0, s.at_ + (d : Int)) < 0 := posI_mem.2 hm
                  have HM5 : Hid (Miss T ((Sc.bts (ls.take k).flatten ++ Sc.bts (l.take j)) ++ Sc.sb ⟨s.src, s.at_, ((d + 1 : Nat) : Int)⟩) (O4 ++ [(s.at_ + (d : Int), s.at_ + (d : Int) + 1)])) := Lib.hid (by
                    rw [HSB.out, ← List.append_assoc, show (s.src, s.at_ + (d : Int)) = ((0 : Int), s.at_ + (d : Int)) from by rw [HC.out]]
                    exact HM4.out.hit hm HI1.out HI2.out)
                  have hn4 : n4 ≤ 60000 := by
                    have h7 := HM4.out.len
                    rw [List.length_append, List.length_append, Sc.sb_length] at h7
                    have h8 := Sc.bts_length (show Sc.Ok (ls.take k).flatten from fun s hs => HOF.out s (by
                      obtain ⟨m, hm, hs⟩ := List.mem_flatten.1 hs
                      exact List.mem_flatten.2 ⟨m, List.mem_of_mem_take hm, hs⟩))
                    have h9 := Sc.bts_length (hMl.out.2.1.take j)
                    have h12 := HF.out
                    have h13 := Sc.flat_split HLk.out (j+1)
                    rw [h13, Sc.tot_append, Sc.tot_append, Sc.tot_take_succ l j s HSk.out, HSL.out] at h12
                    have h15 := Sc.tot_nonneg (l.drop (j+1) ++ (ls.drop (k+1)).flatten) (fun s hs => HOF.out s (by
                      rw [h13]; exact List.mem_append_right _ hs))
                    have h16 := HO4.out.1
                    simp only at h7
                    omega
                  clear hm
                  generalize posI (Sc.bts T) (0, s.at_ + (d : Int)) = PP at *
                  go_wp2_with (at_builtin; refine wpList_append_block rfl (.tmp 52) (.tmp 57) 27 rfl BB 52 i0 _ 2 16 Try.underlying27 hi hz0 hz1 hz2 rfl (by decide) _ _ _ rfl (HO5.out.alloc _).2 ⟨w5.heap.size, 0, none⟩ 1 1 (cells [(s.at_ + (d : Int), s.at_ + (d : Int) + 1)]) rfl rfl (new_one _ (s.at_ + (d : Int), s.at_ + (d : Int) + 1) _ rfl) (cells_one_cell _) (by unfold maxLen; omega) (by omega) (by simp; omega) ?_)
                  intro v' w6 hown' hgrow hbl
                  obtain ⟨⟨A6, c6, hv, hown6⟩, hb6, _, _, _⟩ := appL_step HO5.out HB5.out hsz5 ((Below.refl _ _).alloc (Nat.le_refl _) _) (m := 1) (K := [(s.at_ + (d : Int), s.at_ + (d : Int) + 1)]) rfl hown' hgrow
                  have hfg := Fr.grown (W0 := w5.alloc (.cells #[.int .i64 (s.at_ + (d : Int)), .int .i64 (s.at_ + (d : Int) + 1)] 52)) ((Below.refl w5.heap.size w5).alloc (Nat.le_refl _) _) hgrow (by simpa using hbl)
                  rw [hv] at hfg
                  rw [hv]
                  have HO6 := Lib.hid hown6; have HF6 := Lib.hid (HF5.out.trans hfg); have HB6 := Lib.hid hb6
                  clear hgrow hown' hv hbl hown6 hfg hb6
                  go_wp2_with fail
                  go_roundw
                  case rel => exact ⟨d+1, n4+1, A6, c6, _, by omega, by congr 1; omega, rfl, HO6.out, HM5, HF6.out, HB6.out⟩
                  case measure => simp [intOf]; omega
              · obtain rfl : d = sl := by omega
                have HM7 : Hid (Miss T (Sc.bts (ls.take k).flatten ++ Sc.bts (l.take (j+1))) O4) := Lib.hid (by
                  rw [bts_take l j s HSk.out, ← List.append_assoc]
                  have := HM4.out
                  rw [← HSL.out] at this
                  exact this)
                have HB7 := Lib.hid (HBy.out.trans hb4)
                clear hown4 hfr hb4
                go_wp2_with fail
                go_roundw
                case rel => exact ⟨j+1, n4, A4, c4, O4, by omega, by go_num, rfl, HO4.out, HM7, HB7.out⟩
                case measure => simp [intOf]; omega
          · have hc' : (s.src == 0) = false := by simpa using hc
            have HM7 : Hid (Miss T (Sc.bts (ls.take k).flatten ++ Sc.bts (l.take (j+1))) O2) := Lib.hid (by
              rw [bts_take l j s HSk.out, ← List.append_assoc]
              exact HM2.out.skip fun x hx => absurd ((mem_sb _ _ _).1 hx).1 hc)
            clear hc
            go_wp2_with fail
            go_loopw [5, 9] (fun v i wy => v = .slice A3 n2 c3 ∧ i = .int .i64 s.at_ ∧ wy = wr.alloc (.cells #[.int .i64 s.src, .int .i64 s.at_, .int .i64 (sl : Int)] 56)) (fun _ i _ => 0)
            case atStart => exact ⟨rfl, rfl, rfl⟩
            case round =>
              obtain ⟨rfl, rfl, rfl⟩ := hrel
              go_wp2_with fail
              go_roundw
              case rel => exact ⟨j+1, n2, A3, c3, O2, by omega, by go_num, rfl, HO2.out.alloc _, HM7, HBx.out.alloc hsz2 _⟩
              case measure => simp [intOf]; omega
        · obtain rfl : j = LN := by omega
          have e7 : l.take j = l := by rw [List.take_of_length_le (Nat.le_of_eq HLN.out)]
          have HM7 : Hid (Miss T (Sc.bts (ls.take (k+1)).flatten) O2) := Lib.hid (by
            have := HM2.out
            rw [e7, ← Sc.bts_append, ← hfl.out] at this
            exact this)
          clear hlt2 e7 hown2 hb2
          go_wp2_with fail
          go_roundw
          case rel => exact ⟨k+1, n2, A3, c3, O2, by omega, by go_num, rfl, HO2.out, HM7, HB2.out⟩
          case measure => simp [intOf]; omega
    · obtain rfl : k = len2 := by omega
      have e2 : ls.take k = ls := by rw [List.take_of_length_le (Nat.le_of_eq H2.out)]
      rw [e2] at HMs
      have hE := miss_end HMs.out (fun l hl => (HL.out l hl).2.1)
      have hln := HMs.out.len
      have hbl := Sc.bts_length HOF.out
      have hnn : n ≤ 50000 := by have := hown.1; have := HF.out; omega
      have HE := Lib.hid hE
      clear hlt e2 hown hb hE hln hbl
      go_wp2_with fail
      refine (joined_any A' n c _ O HOw.out.1 HOw.out.rd (by omega)).mono ?_
      rintro e w3 ⟨⟨A3, n3, c3, rfl, hown3⟩, hb3⟩
      have HO3 := Lib.hid hown3
      have HB3 := Lib.hid hb3
      have hn3 : n3 ≤ 50000 := by
        rw [← hown3.1]
        have := joinR_len O []
        have := HOw.out.1
        simp at *
        omega
      have HI3 := Lib.hid (joinR_ir O [] (fun r hr => by simp at hr) HMs.out.ir)
      clear hown3 hb3
      go_wp2_with fail
      refine (Mix_any A3 n3 c3 none 0 0 0 (.inl rfl) _ (O.foldl jstep []) [] HO3.out.1 HO3.out.rd HI3.out rfl (Rd.nil _ _ _) (fun r hr => by simp at hr) (by omega) (by omega)).mono ?_
      rintro e w4 ⟨⟨A4, n4, c4, rfl, hown4⟩, hb4⟩
      rw [mix_nl, HE.out] at hown4
      have HO4 := Lib.hid (hown4.mono (base' := BB) (by have := HB3.out.size; omega))
      have HB4 := Lib.hid (HBel.out.trans ((below_up HB3.out hb4).mono hsz))
      clear hown4 hb4
      go_wp2_with fail
      go_ret
      obtain rfl := HB.out
      exact ⟨⟨_, _, _, rfl, HO4.out⟩, HB4.out⟩
end Go.Proofs.Ytdpjblepcpjomaa.Rb
