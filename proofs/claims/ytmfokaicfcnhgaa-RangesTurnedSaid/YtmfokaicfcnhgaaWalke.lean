/-
  What ranges.Both answers: the right list of what each of two lists has.
-/
import Derived.Test.YtmfokaicfcnhgaaWalkd
import Derived.Deep.RegionHeld3
namespace Go.Proofs.Ytmfokaicfcnhgaa
open Go.RowKit
theorem Rd.cons {w : World} {B : Nat} {A : Option Addr} {s : R} {l : List R} (h : Rd w B A (s :: l)) : ∃ b off, A = some ⟨b, off, none⟩ ∧ b < B ∧ w.cell? ⟨b, off, none⟩ = some (.int .i64 s.1) ∧ w.cell? ⟨b, off + 1, none⟩ = some (.int .i64 s.2) := by
  obtain ⟨b, off, e, hb, h0, h1⟩ := h 0 s rfl
  exact ⟨b, off, e, hb, by simpa using h0, by simpa using h1⟩
def lenV : Value → Nat
  | .slice _ n _ => n
  | _ => 0
set_option maxHeartbeats 1600000 in
theorem Both_any (A : Option Addr) (len cap : Nat) (A2 : Option Addr) (len2 cap2 : Nat) (w : World) (l m : List R) (hlen : l.length = len) (hr : Rd w w.heap.size A l) (hI : IR l)
    (hlen2 : m.length = len2) (hr2 : Rd w w.heap.size A2 m) (hI2 : IR m) (hm : len ≤ 1000000) (hm2 : len2 ≤ 1000000) :
    Calls Try.prog 23 #[.slice A len cap, .slice A2 len2 cap2] w fun e w' => (∃ A' n c, e = .returned (.slice A' n c) ∧ Own w' w.heap.size A' n c (bothR l m)) ∧ Below w.heap.size w w' := by
  obtain ⟨i0, hi, hz0, hz1, hz2⟩ := info_parts info29
  have H := Lib.hid hlen; have HR := Lib.hid hr; have HI := Lib.hid hI
  have H2 := Lib.hid hlen2; have HR2 := Lib.hid hr2; have HI2 := Lib.hid hI2
  clear hlen hr hI hlen2 hr2 hI2
  go_enter Try.func23, Try.ntmps23
  go_wp2_with fail
  refine (Normal_any A len cap _ l H.out HR.out HI.out (by omega)).mono ?_
  rintro e w1 ⟨⟨A5, n5, c5, rfl, hown5⟩, hb5⟩
  have HO5 := Lib.hid hown5; have HB5 := Lib.hid hb5
  clear hown5 hb5
  go_wp2_with fail
  refine (Normal_any A2 len2 cap2 _ m H2.out (HR2.out.up HB5.out) HI2.out (by omega)).mono ?_
  rintro e w2 ⟨⟨A6, n6, c6, rfl, hown6⟩, hb6⟩
  have HO6 := Lib.hid hown6; have HB6 := Lib.hid (below_up HB5.out hb6)
  have HO7 := Lib.hid (HO5.out.up hb6)
  have h5 : n5 ≤ 1000000 := by have := nl_len l; have := H.out; have := HO5.out.1; omega
  have h6 : n6 ≤ 1000000 := by have := nl_len m; have := H2.out; have := HO6.out.1; omega
  clear hown6 hb6 HO5 HB5 HR HR2
  generalize hBB : w2.heap.size = BB at *
  have hsB : w.heap.size ≤ BB := by have := HB6.out.size; omega
  have HB := Lib.hid hBB
  have HR5 : Hid (Rd w2 BB A5 (nl l)) := Lib.hid (by rw [← hBB]; exact HO7.out.rd)
  have HR6 : Hid (Rd w2 BB A6 (nl m)) := Lib.hid (by rw [← hBB]; exact HO6.out.rd)
  have hl5 := HO7.out.1
  have hl6 := HO6.out.1
  have hc5 := HO7.out.cap
  have hc6 := HO6.out.cap
  clear hBB HO6 HO7
  unfold maxLen at hc5 hc6
  go_wp2_with fail
  go_loopw [0, 1, 5] (fun va vb vo wr => ∃ (B5 : Option Addr) (m5 d5 : Nat) (B6 : Option Addr) (m6 d6 : Nat) (B7 : Option Addr) (m7 d7 : Nat) (a b o : List R), m5 + m6 + m7 ≤ n5 + n6 ∧ m5 ≤ d5 ∧ d5 ≤ c5 ∧ m6 ≤ d6 ∧ d6 ≤ c6 ∧ va = .slice B5 m5 d5 ∧ vb = .slice B6 m6 d6 ∧ vo = .slice B7 m7 d7 ∧
    a.length = m5 ∧ b.length = m6 ∧ Hid (Rd w2 BB B5 a) ∧ Hid (Rd w2 BB B6 b) ∧ Hid (Own wr BB B7 m7 d7 o) ∧ Hid (o ++ bothL a b = bothL (nl l) (nl m)) ∧ Below BB w2 wr) (fun va vb _ _ => lenV va + lenV vb)
  case atStart => exact ⟨A5, n5, c5, A6, n6, c6, Option.none, 0, 0, _, _, [], by omega, by omega, Nat.le_refl _, by omega, Nat.le_refl _, rfl, rfl, rfl, hl5, hl6, HR5, HR6, Lib.hid (Own.nil _ _), Lib.hid (List.nil_append _), Below.refl _ _⟩
  case round =>
    obtain ⟨B5, m5, d5, B6, m6, d6, B7, m7, d7, a, b, o, hs, q5, q5', q6, q6', rfl, rfl, rfl, ha, hb, RA, RB, RO, RE, hbl⟩ := hrel
    have hsz : BB ≤ wr.heap.size := by have := hbl.size; have := HB.out; omega
    have HBel := Lib.hid hbl
    cases a with
    | nil =>
      obtain rfl : m5 = 0 := ha.symm
      have RF : Hid (o = bothL (nl l) (nl m)) := Lib.hid (by have := RE.out; rwa [bothL_nil, List.append_nil] at this)
      clear ha hb hbl
      go_wp2_with fail
      go_ret
      exact ⟨⟨_, _, _, rfl, by have := RO.out; rw [RF.out] at this; exact this.mono hsB⟩, HB6.out.trans (HBel.out.mono hsB)⟩
    | cons r a =>
      cases b with
      | nil =>
        obtain rfl : m6 = 0 := hb.symm
        have RF : Hid (o = bothL (nl l) (nl m)) := Lib.hid (by have := RE.out; rwa [bothL_nil', List.append_nil] at this)
        have hm5 : 0 < m5 := by rw [← ha]; simp
        clear ha hb hbl
        go_wp2_with fail
        go_ret
        exact ⟨⟨_, _, _, rfl, by have := RO.out; rw [RF.out] at this; exact this.mono hsB⟩, HB6.out.trans (HBel.out.mono hsB)⟩
      | cons s b =>
        obtain ⟨x5, rfl⟩ : ∃ x, m5 = x + 1 := ⟨a.length, ha.symm⟩
        obtain ⟨x6, rfl⟩ : ∃ x, m6 = x + 1 := ⟨b.length, hb.symm⟩
        obtain ⟨b5, o5, rfl, hb5, a0, a1⟩ := RA.out.cons
        obtain ⟨b6, o6, rfl, hb6, b0, b1⟩ := RB.out.cons
        have a0' := (hbl.cell (p := ⟨b5, o5, none⟩) hb5).trans a0
        have a1' := (hbl.cell (p := ⟨b5, o5 + 1, none⟩) hb5).trans a1
        have b0' := (hbl.cell (p := ⟨b6, o6, none⟩) hb6).trans b0
        have b1' := (hbl.cell (p := ⟨b6, o6 + 1, none⟩) hb6).trans b1
        have na := World.new_ne wr _ a0'
        have nb := World.new_ne wr _ b0'
        clear a0 b0 hbl
        go_wp2_with fail
        go_cut [6] (fun v wx => v = .pointer (some ⟨wr.heap.size, 0, none⟩) ∧ wx = (wr.alloc (.cells #[.int .i64 (max r.1 s.1), .int .i64 (min r.2 s.2)] 29)).drew)
        case first =>
          go_region_held3 (fun w' => w'.cell? ⟨b5, o5, none⟩ = some (.int .i64 r.1) ∧ w'.cell? ⟨b5, o5 + 1, none⟩ = some (.int .i64 r.2) ∧ w'.cell? ⟨b6, o6, none⟩ = some (.int .i64 s.1) ∧ w'.cell? ⟨b6, o6 + 1, none⟩ = some (.int .i64 s.2)) (go_keep) (fail)
          all_goals
            go_wp2_with fail
            go_meet
            exact ⟨rfl, rfl⟩
        case rest =>
          obtain ⟨rfl, rfl⟩ := hcut
          have hw0 : Hid (Below BB wr ((wr.alloc (.cells #[.int .i64 (max r.1 s.1), .int .i64 (min r.2 s.2)] 29)).drew)) := Lib.hid (belowDrewN ((Below.refl _ _).alloc hsz _) 1)
          go_upto_if 42 with (fail)
          go_cut [5] (fun v wx => ∃ (B8 : Option Addr) (m8 d8 : Nat), v = .slice B8 m8 d8 ∧ m8 ≤ m7 + 1 ∧ Hid (Own wx BB B8 m8 d8 (o ++ (if max r.1 s.1 < min r.2 s.2 then [(max r.1 s.1, min r.2 s.2)] else []))) ∧ Below BB w2 wx)
          case first =>
            by_cases hc : max r.1 s.1 < min r.2 s.2
            · have HC : Hid ((if max r.1 s.1 < min r.2 s.2 then [(max r.1 s.1, min r.2 s.2)] else []) = [(max r.1 s.1, min r.2 s.2)]) := Lib.hid (if_pos hc)
              go_wp2_with (at_builtin; refine wpList_append_own _ rfl (.tmp 43) (.tmp 45) 22 rfl BB 29 i0 _ 2 16 Try.underlying22 hi hz0 hz1 hz2 rfl (by decide) _ _ _ rfl (((RO.out.alloc _).alloc _).drewN 1).2 ⟨wr.heap.size + 1, 0, none⟩ 1 1 (cells [(max r.1 s.1, min r.2 s.2)]) rfl rfl (new_one (wr.alloc _).drew (max r.1 s.1, min r.2 s.2) _ (by simp)) (cells_one_cell _) (by unfold maxLen; omega) (by omega) (by simp; omega) ?_)
              intro v' w4 hown' hgrow _
              obtain ⟨⟨A8, c8, hv, hown2⟩, hb3, _, _, _⟩ := appL_step RO.out HBel.out hsz (belowDrewN (((Below.refl _ _).alloc (Nat.le_refl _) _).alloc (by simp) _) 1) (m := 1) (K := [(max r.1 s.1, min r.2 s.2)]) rfl hown' hgrow
              rw [hv]
              clear hgrow hown' hv
              go_wp2_with fail
              go_meet
              exact ⟨A8, m7+1, c8, rfl, Nat.le_refl _, by rw [HC.out]; exact Lib.hid hown2, hb3⟩
            · have HC : Hid ((if max r.1 s.1 < min r.2 s.2 then [(max r.1 s.1, min r.2 s.2)] else []) = []) := Lib.hid (if_neg hc)
              go_wp2_with fail
              go_meet
              exact ⟨B7, m7, d7, rfl, by omega, by rw [HC.out, List.append_nil]; exact Lib.hid ((RO.out.alloc _).drewN 1), HBel.out.trans hw0.out⟩
          case rest =>
            obtain ⟨B8, m8, d8, rfl, hm8, RO8, hb8⟩ := hcut
            have HB8 := Lib.hid hb8
            have a1' := (hb8.cell (p := ⟨b5, o5 + 1, none⟩) hb5).trans a1
            have b1' := (hb8.cell (p := ⟨b6, o6 + 1, none⟩) hb6).trans b1
            have hsz8 : BB ≤ wc.heap.size := by have := hb8.size; have := HB.out; omega
            clear hb8 hw0
            go_wp2_with fail
            go_quiet (fail)
            by_cases hle : r.2 ≤ s.2
            · have RF : Hid (o ++ (if max r.1 s.1 < min r.2 s.2 then [(max r.1 s.1, min r.2 s.2)] else []) ++ bothL a (s :: b) = bothL (nl l) (nl m)) := Lib.hid (by have := RE.out; rw [bothL_cons, if_pos hle, ← List.append_assoc] at this; exact this)
              have ha' : a.length = x5 := by simpa using ha
              by_cases hd : d5 = 1
              · subst hd
                obtain rfl : x5 = 0 := by omega
                obtain rfl : a = [] := List.length_eq_zero_iff.1 ha'
                go_wp2_with fail
                go_roundw
                case rel => exact ⟨_, 0, 0, _, x6 + 1, d6, _, m8, d8, [], s :: b, _, by omega, Nat.le_refl _, Nat.zero_le _, q6, q6', rfl, rfl, rfl, rfl, hb, Lib.hid (Rd.nil _ _ _), RB, Lib.hid (RO8.out.drewN _), RF, belowDrewN HB8.out _⟩
                case measure => simp only [lenV]; omega
              · go_wp2_with fail
                go_roundw
                case rel => exact ⟨_, x5, d5 - 1, _, x6 + 1, d6, _, m8, d8, a, s :: b, _, by omega, by omega, by omega, q6, q6', rfl, rfl, rfl, ha', hb, Lib.hid RA.out.tail, RB, Lib.hid (RO8.out.drewN _), RF, belowDrewN HB8.out _⟩
                case measure => simp only [lenV]; omega
            · have RF : Hid (o ++ (if max r.1 s.1 < min r.2 s.2 then [(max r.1 s.1, min r.2 s.2)] else []) ++ bothL (r :: a) b = bothL (nl l) (nl m)) := Lib.hid (by have := RE.out; rw [bothL_cons, if_neg hle, ← List.append_assoc] at this; exact this)
              have hb' : b.length = x6 := by simpa using hb
              by_cases hd : d6 = 1
              · subst hd
                obtain rfl : x6 = 0 := by omega
                obtain rfl : b = [] := List.length_eq_zero_iff.1 hb'
                go_wp2_with fail
                go_roundw
                case rel => exact ⟨_, x5 + 1, d5, _, 0, 0, _, m8, d8, r :: a, [], _, by omega, q5, q5', Nat.le_refl _, Nat.zero_le _, rfl, rfl, rfl, ha, rfl, RA, Lib.hid (Rd.nil _ _ _), Lib.hid (RO8.out.drewN _), RF, belowDrewN HB8.out _⟩
                case measure => simp only [lenV]; omega
              · go_wp2_with fail
                go_roundw
                case rel => exact ⟨_, x5 + 1, d5, _, x6, d6 - 1, _, m8, d8, r :: a, b, _, by omega, q5, q5', by omega, by omega, rfl, rfl, rfl, ha, hb', RA, Lib.hid RB.out.tail, Lib.hid (RO8.out.drewN _), RF, belowDrewN HB8.out _⟩
                case measure => simp only [lenV]; omega
end Go.Proofs.Ytmfokaicfcnhgaa
