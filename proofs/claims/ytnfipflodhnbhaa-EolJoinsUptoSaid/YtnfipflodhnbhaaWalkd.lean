/-
  What eol.Ends and the reference's Ends, Ints, Line and Start answer; Start of a number below 0.
-/
import Derived.Test.YtnfipflodhnbhaaWalkc
namespace Go.Proofs.Ytnfipflodhnbhaa
open Go.RowKit
theorem RefLine_any (A : Option Addr) (len cap at_ : Nat) (w : World) (l : List Int) (hlen : l.length = len) (hr : RdB w w.heap.size A l) (hat : at_ ≤ len) (hm : len ≤ 9223372036854775807) :
    Calls Try.prog 16 #[.slice A len cap, .int .i64 at_] w fun e w' => e = .returned (.int .i64 (cnt (l.take at_))) ∧ w = w' := by
  have H := Lib.hid hlen; have HR := Lib.hid hr
  clear hlen hr
  go_enter Try.func16, Try.ntmps16
  go_wp2_with fail
  go_loopw [5, 6] (fun q i wr => ∃ j : Nat, j ≤ at_ ∧ cnt (l.take j) ≤ j ∧ i = .int .i64 j ∧ q = .int .i64 (cnt (l.take j)) ∧ w = wr) (fun _ i _ => at_ - (intOf i).toNat)
  case atStart => exact ⟨0, Nat.zero_le _, by simp [cnt], rfl, by simp [cnt], rfl⟩
  case round =>
    obtain ⟨j, hj, hc, rfl, rfl, rfl⟩ := hrel
    by_cases hlt : j < at_
    · obtain ⟨x, hx⟩ := get_some l j (by have := H.out; omega)
      obtain ⟨b, off, rfl, hb', h0⟩ := HR.out j x hx
      have hs := cnt_take_succ hx
      by_cases h10 : x = 10
      · rw [if_pos h10] at hs
        have HS := Lib.hid hs
        subst h10
        clear hs hx
        go_wp2_with fail
        go_roundw
        case rel => exact ⟨j+1, by omega, by rw [HS.out]; omega, by go_num, by rw [HS.out]; go_num, trivial⟩
        case measure => simp [intOf]; omega
      · rw [if_neg h10] at hs
        have HS := Lib.hid hs
        have f1 : (x == 10) = false := by simpa using h10
        clear hs hx h10
        go_wp2_with fail
        go_roundw
        case rel => exact ⟨j+1, by omega, by rw [HS.out]; omega, by go_num, by rw [HS.out]; rfl, trivial⟩
        case measure => simp [intOf]; omega
    · obtain rfl : j = at_ := by omega
      clear hlt
      go_wp2_with fail
      go_ret
      exact ⟨rfl, rfl⟩
/-- Where a line begins, -1: there is none. -/
def StartV (l : List Int) (line v : Int) : Prop := (line = 0 ∧ v = 0) ∨ (∃ k p : Nat, line = (k : Int) + 1 ∧ NthP l k p ∧ v = (p : Int) + 1) ∨ (((∃ k : Nat, line = (k : Int) + 1 ∧ cnt l ≤ k) ∨ line < 0) ∧ v = -1)
set_option maxHeartbeats 400000 in
theorem RefStart_any (A : Option Addr) (len cap : Nat) (line : Int) (w : World) (l : List Int) (hlen : l.length = len) (hr : RdB w w.heap.size A l) (hm : len ≤ 140737488355328) (hl0 : -9223372036854775808 ≤ line) (hl1 : line ≤ 9223372036854775807) :
    Calls Try.prog 17 #[.slice A len cap, .int .i64 line] w fun e w' => (∃ v, StartV l line v ∧ e = .returned (.int .i64 v)) ∧ w = w' := by
  have H := Lib.hid hlen; have HR := Lib.hid hr
  clear hlen hr
  by_cases hz : line = 0
  · subst hz
    go_enter Try.func17, Try.ntmps17
    go_wp2_with fail
    go_ret
    exact ⟨⟨_, .inl ⟨rfl, rfl⟩, rfl⟩, rfl⟩
  have f0 : (line == 0) = false := by simpa using hz
  go_enter Try.func17, Try.ntmps17
  go_wp2_with fail
  go_loopw [5, 6] (fun q i wr => ∃ j : Nat, j ≤ len ∧ cnt (l.take j) ≤ j ∧ (line < 0 ∨ (cnt (l.take j) : Int) < line) ∧ i = .int .i64 j ∧ q = .int .i64 (cnt (l.take j)) ∧ w = wr) (fun _ i _ => len - (intOf i).toNat)
  case atStart => exact ⟨0, Nat.zero_le _, by simp [cnt], by simp [cnt]; omega, rfl, by simp [cnt], rfl⟩
  case round =>
    obtain ⟨j, hj, hc, hq, rfl, rfl, rfl⟩ := hrel
    by_cases hlt : j < len
    · obtain ⟨x, hx⟩ := get_some l j (by have := H.out; omega)
      obtain ⟨b, off, rfl, hb', h0⟩ := HR.out j x hx
      have hs := cnt_take_succ hx
      by_cases h10 : x = 10
      · rw [if_pos h10] at hs
        have HS := Lib.hid hs
        subst h10
        have HX := Lib.hid hx
        clear hs hx
        by_cases he : line = (cnt (l.take j) : Int) + 1
        · have HE := Lib.hid he
          have f2 : ((cnt (l.take j) : Int) + 1 == line) = true := by simp; omega
          clear he
          go_wp2_with fail
          go_ret
          exact ⟨⟨_, .inr (.inl ⟨_, j, HE.out, ⟨HX.out, rfl⟩, rfl⟩), rfl⟩, rfl⟩
        · have f2 : ((cnt (l.take j) : Int) + 1 == line) = false := by simp; omega
          have f3 : line < 0 ∨ (cnt (l.take j) : Int) + 1 < line := by omega
          clear he
          go_wp2_with fail
          go_roundw
          case rel => exact ⟨j+1, by omega, by rw [HS.out]; omega, by rw [HS.out]; omega, by go_num, by rw [HS.out]; go_num, trivial⟩
          case measure => simp [intOf]; omega
      · rw [if_neg h10] at hs
        have HS := Lib.hid hs
        have f1 : (x == 10) = false := by simpa using h10
        clear hs hx h10
        go_wp2_with fail
        go_roundw
        case rel => exact ⟨j+1, by omega, by rw [HS.out]; omega, by rw [HS.out]; omega, by go_num, by rw [HS.out]; rfl, trivial⟩
        case measure => simp [intOf]; omega
    · obtain rfl : j = len := by omega
      clear hlt
      have e2 : l.take j = l := by rw [List.take_of_length_le (Nat.le_of_eq H.out)]
      have hck : line < 0 ∨ (cnt l : Int) < line := by rw [e2] at hq; exact hq
      clear e2
      go_wp2_with fail
      go_ret
      refine ⟨⟨_, .inr (.inr ⟨?_, rfl⟩), rfl⟩, rfl⟩
      rcases hck with hck | hck
      · exact .inr hck
      · exact .inl ⟨(line - 1).toNat, by omega, by omega⟩
theorem big_cast (k : Nat) (hk : k = 9223372036854775807) : (k : Int) = 9223372036854775807 := by omega
theorem Nth_big (A : Option Addr) (len cap : Nat) (w : World) (l : List Int) (hlen : l.length = len) (hr : RdB w w.heap.size A l) (hm : len ≤ 140737488355328) :
    Calls Try.prog 11 #[.slice A len cap, .int .i64 9223372036854775807] w fun e w' => e = .returned (.tuple #[.int .i64 0, .bool false]) ∧ w = w' := by
  obtain ⟨k, hk⟩ : ∃ k : Nat, k = 9223372036854775807 := ⟨_, rfl⟩
  have h := Nth_no A len cap k w l hlen hr (by omega) (by have := cnt_le l; omega) (by omega)
  rwa [big_cast k hk] at h
theorem Start_neg (A : Option Addr) (len cap : Nat) (line : Int) (w : World) (l : List Int) (hlen : l.length = len) (hr : RdB w w.heap.size A l) (hm : len ≤ 140737488355328) (hl0 : -9223372036854775808 ≤ line) (hl1 : line < 0) :
    Calls Try.prog 9 #[.slice A len cap, .int .i64 line] w fun e w' => e = .returned (.tuple #[.int .i64 0, .int .i64 2]) ∧ w = w' := by
  have H := Lib.hid hlen; have HR := Lib.hid hr
  clear hlen hr
  have f0 : (line == 0) = false := by simp; omega
  by_cases hz : line = -9223372036854775808
  · subst hz
    go_enter Try.func9, Try.ntmps9
    go_wp2_with fail
    rw [show wrap64 (-9223372036854775809) = 9223372036854775807 from by first | kernel_rfl | (unfold wrap64; omega) | (simp [wrap64])]
    refine (Nth_big A len cap _ l H.out HR.out hm).mono ?_
    rintro e w1 ⟨rfl, rfl⟩
    go_wp2_with fail
    go_ret2
    exact ⟨rfl, rfl⟩
  · have hz2 : -9223372036854775807 ≤ line := by omega
    clear hz
    go_enter Try.func9, Try.ntmps9
    go_wp2_with fail
    refine (Nth_neg A len cap _ _ (by omega)).mono ?_
    rintro e w1 ⟨rfl, rfl⟩
    go_wp2_with fail
    go_ret2
    exact ⟨rfl, rfl⟩
/-- What Start answers beside the reference's. -/
def StartE (v : Int) (e : Ending) : Prop := (0 ≤ v ∧ e = .returned (.tuple #[.int .i64 v, .int .i64 0])) ∨ (v = -1 ∧ e = .returned (.tuple #[.int .i64 0, .int .i64 2]))
theorem StartV.uniq {l : List Int} {line v v' : Int} (h : StartV l line v) (h' : StartV l line v') : v = v' := by
  rcases h with ⟨h1, rfl⟩ | ⟨k, p, h1, h2, rfl⟩ | ⟨h1, rfl⟩ <;> rcases h' with ⟨g1, rfl⟩ | ⟨k', p', g1, g2, rfl⟩ | ⟨g1, rfl⟩
  · rfl
  · omega
  · rcases g1 with ⟨k', g1, _⟩ | g1 <;> omega
  · omega
  · obtain rfl : k = k' := by omega
    rw [h2.uniq g2]
  · rcases g1 with ⟨k', g1, g3⟩ | g1
    · have := h2.lt_cnt; omega
    · omega
  · rcases h1 with ⟨k', h1, _⟩ | h1 <;> omega
  · rcases h1 with ⟨k, h1, h3⟩ | h1
    · have := g2.lt_cnt; omega
    · omega
  · rfl
theorem Start_any (A : Option Addr) (len cap : Nat) (line : Int) (w : World) (l : List Int) (hlen : l.length = len) (hr : RdB w w.heap.size A l) (hm : len ≤ 140737488355328) (hl0 : -9223372036854775808 ≤ line) (hl1 : line ≤ 9223372036854775807) :
    Calls Try.prog 9 #[.slice A len cap, .int .i64 line] w fun e w' => (∃ v, StartV l line v ∧ StartE v e) ∧ w = w' := by
  by_cases h0 : line = 0
  · subst h0
    refine (Start_zero A len cap w).mono ?_
    rintro e w' ⟨rfl, rfl⟩
    exact ⟨⟨0, .inl ⟨rfl, rfl⟩, .inl ⟨Int.le_refl _, rfl⟩⟩, rfl⟩
  by_cases hn : line < 0
  · refine (Start_neg A len cap line w l hlen hr hm hl0 hn).mono ?_
    rintro e w' ⟨rfl, rfl⟩
    exact ⟨⟨-1, .inr (.inr ⟨.inr hn, rfl⟩), .inr ⟨rfl, rfl⟩⟩, rfl⟩
  obtain ⟨k, rfl⟩ : ∃ k : Nat, line = (k : Int) + 1 := ⟨(line - 1).toNat, by omega⟩
  by_cases hk : k < cnt l
  · refine (Start_yes A len cap k _ w l hlen hr hm hk rfl).mono ?_
    rintro e w' ⟨⟨p, hp, rfl⟩, rfl⟩
    exact ⟨⟨(p : Int) + 1, .inr (.inl ⟨k, p, rfl, hp, rfl⟩), .inl ⟨by omega, rfl⟩⟩, rfl⟩
  · refine (Start_no A len cap k _ w l hlen hr hm (by omega) (by omega) rfl).mono ?_
    rintro e w' ⟨rfl, rfl⟩
    exact ⟨⟨-1, .inr (.inr ⟨.inl ⟨k, rfl, by omega⟩, rfl⟩), .inr ⟨rfl, rfl⟩⟩, rfl⟩
theorem Ints_true (A : Option Addr) (len cap : Nat) (A2 : Option Addr) (len2 cap2 : Nat) (w : World) (l : List Int) (hlen : l.length = len) (hr : RdI w w.heap.size A l) (hm : len ≤ 9223372036854775807) (hlen2 : len2 = len) (hr2 : RdI w w.heap.size A2 l) :
    Calls Try.prog 14 #[.slice A len cap, .slice A2 len2 cap2] w fun e w' => e = .returned (.bool true) ∧ Below w.heap.size w w' := by
  subst hlen2
  have H := Lib.hid hlen; have HR := Lib.hid hr; have HR2 := Lib.hid hr2
  clear hlen hr hr2
  go_enter Try.func14, Try.ntmps14
  go_wp2_with fail
  go_loopw [5] (fun i wr => ∃ k : Nat, k ≤ len2 ∧ i = .int .i64 k ∧ Below w.heap.size w wr) (fun i _ => len2 - (intOf i).toNat)
  case atStart => exact ⟨0, Nat.zero_le _, rfl, Below.refl _ _⟩
  case round =>
    obtain ⟨k, hk, rfl, hb⟩ := hrel
    by_cases hlt : k < len2
    · obtain ⟨s, hs⟩ := get_some l k (by have := H.out; omega)
      obtain ⟨b, off, rfl, hb', h0⟩ := HR.out.below hb (by omega) k s hs
      obtain ⟨b2, off2, rfl, hb2', g0⟩ := HR2.out.below hb (by omega) k s hs
      clear hs
      go_wp2_with fail
      go_quiet (fail)
      go_wp2_with fail
      go_roundw
      case rel => exact ⟨k+1, by omega, by go_num, belowDrewN hb _⟩
      case measure => simp [intOf]; omega
    · obtain rfl : k = len2 := by omega
      clear hlt
      go_wp2_with fail
      go_ret
      exact ⟨rfl, hb⟩
theorem RefEnds_any (A : Option Addr) (len cap : Nat) (w : World) (l : List Int) (hlen : l.length = len) (hr : RdB w w.heap.size A l) (hm : len * 8 ≤ 140737488355328) :
    Calls Try.prog 13 #[.slice A len cap] w fun e w' => (∃ A' c, e = .returned (.slice A' (cnt l) c) ∧ OwnI w' w.heap.size A' (cnt l) c (endsI l)) ∧ Below w.heap.size w w' := by
  obtain ⟨i0, hi, hz0, hz1, hz2⟩ := info_parts info3
  have H := Lib.hid hlen; have HR := Lib.hid hr
  clear hlen hr
  go_enter Try.func13, Try.ntmps13
  go_wp2_with fail
  generalize hBB : w.heap.size = BB at *
  have HB := Lib.hid hBB; clear hBB
  go_loopw [3, 4] (fun v i wr => ∃ k n A' c, k ≤ len ∧ n ≤ k ∧ n = cnt (l.take k) ∧ i = .int .i64 k ∧ v = .slice A' n c ∧ OwnI wr BB A' n c (endsI (l.take k)) ∧ Below BB w wr) (fun _ i _ => len - (intOf i).toNat)
  case atStart => exact ⟨0, 0, _, _, Nat.zero_le _, Nat.zero_le _, by simp [cnt], rfl, rfl, OwnI.nil _ _, Below.refl _ _⟩
  case round =>
    obtain ⟨k, n, A', c, hk, hnk, hn, rfl, rfl, hown, hb⟩ := hrel
    have HO := Lib.hid hown
    have HBel := Lib.hid hb
    by_cases hlt : k < len
    · obtain ⟨x, hx⟩ := get_some l k (by have := H.out; omega)
      obtain ⟨b2, off2, rfl, hb2, c0⟩ := HR.out.below hb (Nat.le_refl _) k x hx
      have hsz : BB ≤ wr.heap.size := by have := hb.size; have := HB.out; omega
      have hs := cnt_take_succ hx
      have ht := endsI_take_snoc hx
      by_cases h10 : x = 10
      · rw [if_pos h10] at hs ht
        rw [← hn] at hs
        have HS := Lib.hid hs
        have HT := Lib.hid ht
        subst h10
        clear hs ht hx hown hb hn
        go_wp2_with (at_builtin; refine wpList_append_own _ rfl _ _ 33 rfl BB 3 i0 _ 1 8 Try.underlying33 hi hz0 hz1 hz2 rfl (by decide) _ _ _ rfl (HO.out.alloc _).2 ⟨wr.heap.size, 0, none⟩ 1 1 (icells [(k : Int)]) rfl rfl (newi_one _ _ _ rfl) (icells_one _) (by unfold maxLen; omega) (by omega) (by simp; omega) ?_)
        intro v' w1 hown' hgrow _
        obtain ⟨⟨A'', c'', hv, hown2⟩, hb3, hst, hz3, hcl⟩ := appI_step HO.out HBel.out hsz ((Below.refl _ _).alloc (Nat.le_refl _) _) (m := 1) (K := [(k : Int)]) rfl hown' hgrow
        rw [hv]
        clear hcl hgrow hown' hv
        go_wp2_with fail
        go_roundw
        case rel => exact ⟨k+1, n+1, A'', c'', by omega, by omega, HS.out.symm, by go_num, rfl, by rw [HT.out]; exact hown2, hb3⟩
        case measure => simp [intOf]; omega
      · rw [if_neg h10] at hs ht
        rw [List.append_nil] at ht
        rw [Nat.add_zero, ← hn] at hs
        have HS := Lib.hid hs
        have HT := Lib.hid ht
        have f1 : (x == 10) = false := by simpa using h10
        clear hs ht hx hown hb hn h10
        go_wp2_with fail
        go_roundw
        case rel => exact ⟨k+1, n, A', c, by omega, by omega, HS.out.symm, by go_num, rfl, by rw [HT.out]; exact HO.out, HBel.out⟩
        case measure => simp [intOf]; omega
    · obtain rfl : k = len := by omega
      clear hlt
      have e2 : l.take k = l := by rw [List.take_of_length_le (Nat.le_of_eq H.out)]
      rw [e2] at hown hn
      subst hn
      go_wp2_with fail
      go_ret
      obtain rfl := HB.out
      exact ⟨⟨_, _, rfl, hown⟩, HBel.out⟩
theorem Ends_any (A : Option Addr) (len cap : Nat) (w : World) (l : List Int) (hlen : l.length = len) (hr : RdB w w.heap.size A l) (hm : len * 8 ≤ 140737488355328) :
    Calls Try.prog 15 #[.slice A len cap] w fun e w' => (∃ A' c, e = .returned (.slice A' (cnt l) c) ∧ OwnI w' w.heap.size A' (cnt l) c (endsI l)) ∧ Below w.heap.size w w' := by
  obtain ⟨i0, hi, hz0, hz1, hz2⟩ := info_parts info3
  have H := Lib.hid hlen; have HR := Lib.hid hr
  clear hlen hr
  go_enter Try.func15, Try.ntmps15
  go_wp2_with fail
  generalize hBB : w.heap.size = BB at *
  have HB := Lib.hid hBB; clear hBB
  go_loopw [3, 8] (fun v i wr => ∃ k n A' c, k ≤ len ∧ n ≤ k ∧ n = cnt (l.take k) ∧ i = .int .i64 k ∧ v = .slice A' n c ∧ OwnI wr BB A' n c (endsI (l.take k)) ∧ Below BB w wr) (fun _ i _ => len - (intOf i).toNat)
  case atStart => exact ⟨0, 0, _, _, Nat.zero_le _, Nat.zero_le _, by simp [cnt], rfl, rfl, OwnI.nil _ _, Below.refl _ _⟩
  case round =>
    obtain ⟨k, n, A', c, hk, hnk, hn, rfl, rfl, hown, hb⟩ := hrel
    have HO := Lib.hid hown
    have HBel := Lib.hid hb
    by_cases hlt : k < len
    · obtain ⟨x, hx⟩ := get_some l k (by have := H.out; omega)
      obtain ⟨b2, off2, rfl, hb2, c0⟩ := HR.out.below hb (Nat.le_refl _) k x hx
      have hsz : BB ≤ wr.heap.size := by have := hb.size; have := HB.out; omega
      have hs := cnt_take_succ hx
      have ht := endsI_take_snoc hx
      by_cases h10 : x = 10
      · rw [if_pos h10] at hs ht
        rw [← hn] at hs
        have HS := Lib.hid hs
        have HT := Lib.hid ht
        subst h10
        clear hs ht hx hown hb hn
        go_wp2_with (at_builtin; refine wpList_append_own _ rfl _ _ 33 rfl BB 3 i0 _ 1 8 Try.underlying33 hi hz0 hz1 hz2 rfl (by decide) _ _ _ rfl (HO.out.alloc _).2 ⟨wr.heap.size, 0, none⟩ 1 1 (icells [(k : Int)]) rfl rfl (newi_one _ _ _ rfl) (icells_one _) (by unfold maxLen; omega) (by omega) (by simp; omega) ?_)
        intro v' w1 hown' hgrow _
        obtain ⟨⟨A'', c'', hv, hown2⟩, hb3, hst, hz3, hcl⟩ := appI_step HO.out HBel.out hsz ((Below.refl _ _).alloc (Nat.le_refl _) _) (m := 1) (K := [(k : Int)]) rfl hown' hgrow
        rw [hv]
        clear hcl hgrow hown' hv
        go_wp2_with fail
        go_roundw
        case rel => exact ⟨k+1, n+1, A'', c'', by omega, by omega, HS.out.symm, by go_num, rfl, by rw [HT.out]; exact hown2, hb3⟩
        case measure => simp [intOf]; omega
      · rw [if_neg h10] at hs ht
        rw [List.append_nil] at ht
        rw [Nat.add_zero, ← hn] at hs
        have HS := Lib.hid hs
        have HT := Lib.hid ht
        have f1 : (x == 10) = false := by simpa using h10
        clear hs ht hx hown hb hn h10
        go_wp2_with fail
        go_roundw
        case rel => exact ⟨k+1, n, A', c, by omega, by omega, HS.out.symm, by go_num, rfl, by rw [HT.out]; exact HO.out, HBel.out⟩
        case measure => simp [intOf]; omega
    · obtain rfl : k = len := by omega
      clear hlt
      have e2 : l.take k = l := by rw [List.take_of_length_le (Nat.le_of_eq H.out)]
      rw [e2] at hown hn
      subst hn
      go_wp2_with fail
      go_ret
      obtain rfl := HB.out
      exact ⟨⟨_, _, rfl, hown⟩, HBel.out⟩
end Go.Proofs.Ytnfipflodhnbhaa
