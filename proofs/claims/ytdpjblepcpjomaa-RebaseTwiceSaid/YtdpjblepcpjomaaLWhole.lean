/-
  That RebaseWhole is true, for all lists and places.
-/
import Derived.Test.YtdpjblepcpjomaaLLists
import Derived.Test.YtdpjblepcpjomaaLAwake
import Derived.Test.YtdpjblepcpjomaaPLaw
import Derived.Test.YtdpjblepcpjomaaSRefa
namespace Go.Proofs.Ytdpjblepcpjomaa.Rb
open Go.RowKit
def ApartTo (l : List S) (i k : Nat) : Prop := ∀ (j m : Nat) (s t : S), l[j]? = some s → l[m]? = some t → m < j → (j < i ∨ (j = i ∧ m < k)) → ¬ (s.src = t.src ∧ s.at_ < t.at_ + t.len ∧ t.at_ < s.at_ + s.len)
theorem apart_step {l : List S} {i k : Nat} {s t : S} (hi : l[i]? = some s) (hk : l[k]? = some t) (h : ApartTo l i k) (hn : ¬ (s.src = t.src ∧ s.at_ < t.at_ + t.len ∧ t.at_ < s.at_ + s.len)) : ApartTo l i (k+1) := by
  intro j m s' t' hj hm hmj hc
  by_cases h1 : j = i ∧ m = k
  · obtain ⟨rfl, rfl⟩ := h1
    rw [hi] at hj; rw [hk] at hm
    cases hj; cases hm
    exact hn
  · exact h j m s' t' hj hm hmj (by omega)
theorem apart_next {l : List S} {i : Nat} (h : ApartTo l i i) : ApartTo l (i+1) 0 := fun j m s t hj hm hmj hc => h j m s t hj hm hmj (by omega)
theorem apart_all {l : List S} (h : ApartTo l l.length 0) : Apart l := fun i k s t hs ht hk => h i k s t hs ht hk (.inl (List.getElem?_eq_some_iff.1 hs).1)
theorem rdl_one (w : World) (A : Option Addr) (c : Nat) (l : List S) (g : Nat) (hg : g = w.heap.size) (hr : Sc.Rd w w.heap.size A l) : Sc.RdL (w.alloc (.cells #[.slice A l.length c] 22)) (w.alloc (.cells #[.slice A l.length c] 22)).heap.size (some ⟨g, 0, none⟩) [l] := by
  subst hg
  have b3 : Below w.heap.size w (w.alloc (.cells #[.slice A l.length c] 22)) := (Below.refl _ _).alloc (Nat.le_refl _) _
  intro k m hm
  match k with
  | 0 =>
    simp at hm; subst hm
    refine ⟨w.heap.size, 0, A, c, rfl, by simp, ?_, hr.up b3⟩
    rw [Sc.cell_new]; rfl
  | k+1 => simp at hm
theorem refSize_same (A : Option Addr) (len cap : Nat) (w : World) (l : List S) (hlen : l.length = len) (hr : Sc.Rd w w.heap.size A l) (hL : Sc.Ok l) (ht : Sc.tot l ≤ 1099511627776) :
    Calls Try.prog 25 #[.slice A len cap] w fun e w' => e = .returned (.int .i64 (Sc.tot l)) ∧ w' = w := by
  have hm := Sc.len_le_tot l hL
  rw [hlen] at hm
  go_enter Try.func25, Try.ntmps25
  go_wp2_with fail
  have H := Lib.hid hlen; clear hlen
  go_loopw [3, 4] (fun s i wr => ∃ k : Nat, k ≤ len ∧ i = .int .i64 k ∧ s = .int .i64 (Sc.tot (l.take k)) ∧ wr = w) (fun _ i _ => len - (intOf i).toNat)
  case atStart => exact ⟨0, Nat.zero_le _, rfl, rfl, rfl⟩
  case round =>
    obtain ⟨k, hk, rfl, rfl, rfl⟩ := hrel
    have p1 := Sc.tot_take_le l hL k
    have p0 := Sc.tot_nonneg (l.take k) (hL.take k)
    by_cases hlt : k < len
    · obtain ⟨s, hs⟩ := Sc.get_some l k (by have := H.out; omega)
      have e1 := Sc.tot_take_succ l k s hs
      have q1 := Sc.tot_take_le l hL (k+1)
      have q2 := (hL.at_ hs).2.2.2.1
      obtain ⟨b, off, rfl, hb', h0, h1, h2⟩ := hr k s hs
      have E1 := Lib.hid e1
      have q3 : Sc.tot (l.take k) + s.len ≤ 1099511627776 := by omega
      clear hr e1 hs hb'
      go_wp2_with fail
      go_roundw
      case rel => exact ⟨k+1, by omega, by go_num, by rw [E1.out], trivial⟩
      case measure => simp [intOf]; omega
    · obtain rfl : k = len := by omega
      clear hlt
      have e2 : Sc.tot (l.take k) = Sc.tot l := by rw [List.take_of_length_le (Nat.le_of_eq H.out)]
      go_wp2_with fail
      go_ret
      exact ⟨ret_int e2, rfl⟩
theorem tot_len (l : List S) (h : Sc.Ok l) : 0 ≤ Sc.tot l := Sc.tot_nonneg l h
set_option maxHeartbeats 1600000 in
set_option maxRecDepth 100000 in
theorem whole_walk (A0 : Option Addr) (len0 cap0 : Nat) (a : Int) (w : World) (l : List S)
    (hl0 : l.length = len0) (hr0 : Sc.Rd w w.heap.size A0 l) (hm0 : len0 ≤ 9223372036854775807) :
    Calls Try.prog 6 #[.slice A0 len0 cap0, .int .i64 a] w fun e w' => e = .returned (.bool true) ∧ Below w.heap.size w w' := by
  have L0 := Lib.hid hl0; have T_0 := Lib.hid hr0
  clear hl0 hr0
  by_cases h60 : len0 ≤ 60
  · have d60 : decide (60 < (len0 : Int)) = false := decide_eq_false (by omega)
    by_cases hM : MayX l
    · have eM := mayX_of hM
      have M := Lib.hid hM
      clear hM
      by_cases ha0 : a < 0
      · have da : decide (a < 0) = true := decide_eq_true ha0
        go_enter Try.func6, Try.ntmps6
        go_wp2_with fail
        refine (awake_any _).mono ?_
        rintro e w1 ⟨rfl, b1⟩
        have T_1 := Lib.hid (T_0.out.up b1)
        have B_1 := Lib.hid (b1)
        clear b1 T_0
        go_wp2_with fail
        refine (refMay_any A0 len0 cap0 _ l L0.out T_1.out (by omega)).mono ?_
        rintro e w2 ⟨rfl, b2⟩
        have T_2 := Lib.hid (T_1.out.up b2)
        have B_2 := Lib.hid (below_up B_1.out b2)
        rw [eM]
        clear b2 T_1 B_1
        go_wp2_with fail
        refine (awake_any _).mono ?_
        rintro e w3 ⟨rfl, b3⟩
        have T_3 := Lib.hid (T_2.out.up b3)
        have B_3 := Lib.hid (below_up B_2.out b3)
        clear b3 T_2 B_2
        go_wp2_with fail
        go_ret
        exact ⟨rfl, B_3.out⟩
      · have da : decide (a < 0) = false := decide_eq_false ha0
        by_cases ha1 : 549755813888 < a
        · have db : decide (549755813888 < a) = true := decide_eq_true ha1
          go_enter Try.func6, Try.ntmps6
          go_wp2_with fail
          refine (awake_any _).mono ?_
          rintro e w1 ⟨rfl, b1⟩
          have T_1 := Lib.hid (T_0.out.up b1)
          have B_1 := Lib.hid (b1)
          clear b1 T_0
          go_wp2_with fail
          refine (refMay_any A0 len0 cap0 _ l L0.out T_1.out (by omega)).mono ?_
          rintro e w2 ⟨rfl, b2⟩
          have T_2 := Lib.hid (T_1.out.up b2)
          have B_2 := Lib.hid (below_up B_1.out b2)
          rw [eM]
          clear b2 T_1 B_1
          go_wp2_with fail
          refine (awake_any _).mono ?_
          rintro e w3 ⟨rfl, b3⟩
          have T_3 := Lib.hid (T_2.out.up b3)
          have B_3 := Lib.hid (below_up B_2.out b3)
          clear b3 T_2 B_2
          go_wp2_with fail
          go_ret
          exact ⟨rfl, B_3.out⟩
        · have db : decide (549755813888 < a) = false := decide_eq_false ha1
          go_enter Try.func6, Try.ntmps6
          go_wp2_with fail
          refine (awake_any _).mono ?_
          rintro e w1 ⟨rfl, b1⟩
          have T_1 := Lib.hid (T_0.out.up b1)
          have B_1 := Lib.hid (b1)
          clear b1 T_0
          go_wp2_with fail
          refine (refMay_any A0 len0 cap0 _ l L0.out T_1.out (by omega)).mono ?_
          rintro e w2 ⟨rfl, b2⟩
          have T_2 := Lib.hid (T_1.out.up b2)
          have B_2 := Lib.hid (below_up B_1.out b2)
          rw [eM]
          clear b2 T_1 B_1
          go_wp2_with fail
          generalize hBB : w2.heap.size = BB at *
          have HB := Lib.hid hBB; clear hBB
          go_loopw [5] (fun i wr => ∃ k : Nat, k ≤ len0 ∧ i = .int .i64 k ∧ Hid (ApartTo l k 0) ∧ Below BB w2 wr) (fun i _ => len0 - (intOf i).toNat)
          case atStart => exact ⟨0, Nat.zero_le _, rfl, Lib.hid (fun j m s t _ _ _ h => by omega), Below.refl _ _⟩
          case round =>
            obtain ⟨i, hi, rfl, hap, hb⟩ := hrel
            have HBel := Lib.hid hb
            by_cases hlt : i < len0
            · obtain ⟨s, hs⟩ := Sc.get_some l i (by have := L0.out; omega)
              have HS := Lib.hid hs
              have RI := Lib.hid (T_2.out.below hb (by have := HB.out; omega))
              obtain ⟨o1, o2, o3, o4, o5⟩ := M.out.2.1.at_ hs
              clear hb hs
              obtain ⟨wo, hwo⟩ : ∃ wo : World, wo = wr := ⟨_, rfl⟩
              subst hwo
              go_wp2_with fail
              go_loopw [6] (fun i' wr => ∃ k : Nat, k ≤ i ∧ i' = .int .i64 k ∧ Hid (ApartTo l i k) ∧ Below BB w2 wr) (fun i' _ => i - (intOf i').toNat)
              case atStart => exact ⟨0, Nat.zero_le _, rfl, hap, HBel.out⟩
              case round =>
                obtain ⟨k, hk, rfl, hap, hb⟩ := hrel
                have HBel := Lib.hid hb
                by_cases hlt2 : k < i
                · obtain ⟨t, ht⟩ := Sc.get_some l k (by have := L0.out; omega)
                  have HT := Lib.hid ht
                  obtain ⟨p1, p2, p3, p4, p5⟩ := M.out.2.1.at_ ht
                  have hR := T_2.out.below hb (by have := HB.out; omega)
                  obtain ⟨b, off, rfl, hb', c0, c1, c2⟩ := hR i s HS.out
                  obtain ⟨b2, off2, e2, _, k0, k1, k2⟩ := hR k t ht
                  cases e2
                  have hN := Lib.hid (apart_step HS.out ht hap.out)
                  clear hR hb ht HS HT
                  have q1 : IntKind.i64.wrap (t.at_ + t.len) = t.at_ + t.len := IntWalk.i64_in _ (by omega)
                  have q2 : IntKind.i64.wrap (s.at_ + s.len) = s.at_ + s.len := IntWalk.i64_in _ (by omega)
                  by_cases g1 : s.src = t.src
                  · by_cases g2 : s.at_ < t.at_ + t.len
                    · by_cases g3 : t.at_ < s.at_ + s.len
                      · have f1 : (s.src == t.src) = true := by simpa using g1
                        have f2 : decide (s.at_ < t.at_ + t.len) = true := decide_eq_true g2
                        have f3 : decide (t.at_ < s.at_ + s.len) = true := decide_eq_true g3
                        clear g1 g2 g3 hN
                        go_wp2_with fail
                        go_quiet (fail)
                        go_wp2_with fail
                        go_ret
                        exact ⟨rfl, below_up B_2.out (by rw [HB.out]; exact belowDrewN HBel.out _)⟩
                      · have f1 : (s.src == t.src) = true := by simpa using g1
                        have f2 : decide (s.at_ < t.at_ + t.len) = true := decide_eq_true g2
                        have f3 : decide (t.at_ < s.at_ + s.len) = false := decide_eq_false g3
                        have HN := Lib.hid (hN.out fun h => g3 h.2.2)
                        clear g1 g2 g3 hN
                        go_wp2_with fail
                        go_quiet (fail)
                        go_wp2_with fail
                        go_roundw
                        case rel => exact ⟨k+1, by omega, by go_num, HN, belowDrewN HBel.out _⟩
                        case measure => simp [intOf]; omega
                    · have f1 : (s.src == t.src) = true := by simpa using g1
                      have f2 : decide (s.at_ < t.at_ + t.len) = false := decide_eq_false g2
                      have HN := Lib.hid (hN.out fun h => g2 h.2.1)
                      clear g1 g2 hN
                      go_wp2_with fail
                      go_quiet (fail)
                      go_wp2_with fail
                      go_roundw
                      case rel => exact ⟨k+1, by omega, by go_num, HN, belowDrewN HBel.out _⟩
                      case measure => simp [intOf]; omega
                  · have f1 : (s.src == t.src) = false := by simpa using g1
                    have HN := Lib.hid (hN.out fun h => g1 h.1)
                    clear g1 hN
                    go_wp2_with fail
                    go_quiet (fail)
                    go_wp2_with fail
                    go_roundw
                    case rel => exact ⟨k+1, by omega, by go_num, HN, belowDrewN HBel.out _⟩
                    case measure => simp [intOf]; omega
                · obtain rfl : k = i := by omega
                  have HN := Lib.hid (apart_next hap.out)
                  clear hap hb
                  go_wp2_with fail
                  go_roundw
                  case rel => exact ⟨k+1, by omega, by go_num, HN, HBel.out⟩
                  case measure => simp [intOf]; omega
            · obtain rfl : i = len0 := by omega
              clear hlt
              have HA := Lib.hid (apart_all (by rw [L0.out]; exact hap.out))
              obtain rfl := HB.out
              have B_3 := Lib.hid (below_up B_2.out hb)
              have T_3 := Lib.hid (T_2.out.up hb)
              clear hap hb HBel B_2 T_2 HB
              go_wp2_with fail
              have r3 := rdl_one wr A0 cap0 l _ rfl T_3.out
              rw [L0.out] at r3
              have b4 : Below wr.heap.size wr (wr.alloc (.cells #[.slice A0 i cap0] 22)) := (Below.refl _ _).alloc (Nat.le_refl _) _
              have T_4 := Lib.hid (T_3.out.up b4)
              have B_4 := Lib.hid (below_up B_3.out b4)
              have R_4 := Lib.hid r3
              clear r3 b4 T_3 B_3
              generalize wr.alloc (.cells #[.slice A0 i cap0] 22) = w4 at *
              refine (Rescue_any A0 i cap0 (some ⟨wr.heap.size, 0, none⟩) 1 1 _ l [l] L0.out T_4.out (by omega) rfl R_4.out (by omega) (by simp; have := L0.out; omega)).mono ?_
              rintro e w5 ⟨⟨A5, n5, c5, rfl, o5⟩, b5⟩
              have T_5 := Lib.hid (T_4.out.up b5)
              have B_5 := Lib.hid (below_up B_4.out b5)
              rw [rescueE_yes M.out (fun m hm => by simp at hm; subst hm; exact M.out)]
              rw [rescueL_yes M.out (fun m hm => by simp at hm; subst hm; exact M.out), whole_rescue M.out.2.1] at o5
              obtain rfl : n5 = 0 := o5.1.symm
              clear o5 R_4
              clear b5 T_4 B_4
              go_wp2_with fail
              by_cases h0 : l = []
              · have hi0 : i = 0 := by have := L0.out; rw [h0] at this; simpa using this.symm
                have HE := Lib.hid (move_done (T := l) (RS := []) (a := a) (l := l) ⟨M.out, M.out, trivial, by omega, by omega, by simp [tot]; omega⟩ (by rw [h0]; intro x hx; simp [Sc.bts] at hx))
                have hz : moveR l [] a l = [] := by rw [HE.out.2, h0]; rfl
                have HZ := Lib.hid hz
                clear hz
                refine (Move_any A0 i cap0 none 0 0 a A0 i cap0 _ l [] l L0.out T_5.out (by omega) rfl (Rd.nil _ _ _) (fun r hr => absurd hr List.not_mem_nil) (by omega) L0.out T_5.out (by omega) (by omega) (by omega)).mono ?_
                rintro e w6 ⟨⟨A6, n6, c6, rfl, o6⟩, b6⟩
                rw [HE.out.1]
                rw [HZ.out] at o6
                obtain rfl : n6 = 0 := o6.1.symm
                have B_6 := Lib.hid (below_up B_5.out b6)
                subst hi0
                clear o6 b6 HE HZ h0 T_5 B_5
                go_wp2_with fail
                go_ret
                exact ⟨rfl, B_6.out⟩
              · have hi0 : ((i : Int) == 0) = false := by
                  have := L0.out
                  have : l.length ≠ 0 := fun h => h0 (List.length_eq_zero_iff.1 h)
                  simp; omega
                have HW := Lib.hid (whole_move M.out.2 HA.out [] a h0)
                have HE := Lib.hid (move_done (T := l) (RS := []) (a := a) (l := l) ⟨M.out, M.out, trivial, by omega, by omega, by simp [tot]; omega⟩ HW.out.2)
                refine (Move_any A0 i cap0 none 0 0 a A0 i cap0 _ l [] l L0.out T_5.out (by omega) rfl (Rd.nil _ _ _) (fun r hr => absurd hr List.not_mem_nil) (by omega) L0.out T_5.out (by omega) (by omega) (by omega)).mono ?_
                rintro e w6 ⟨⟨A6, n6, c6, rfl, o6⟩, b6⟩
                rw [HE.out.1]
                rw [HE.out.2, HW.out.1] at o6
                obtain rfl : n6 = 1 := o6.1.symm
                obtain ⟨b, off, rfl, hb', c0, c1, c2⟩ := o6.rd 0 _ rfl
                have hrd := Lib.hid (T_5.out.up b6)
                have B_6 := Lib.hid (below_up B_5.out b6)
                have HCS : Hid (∀ n, Calls Try.prog 25 #[.slice A0 i cap0] (w6.drewN n) fun e w' => e = .returned (.int .i64 (Sc.tot l)) ∧ ∃ k, w' = w6.drewN k) := Lib.hid (fun n => (refSize_same A0 i cap0 _ l L0.out (hrd.out.up (belowDrewN (Below.refl _ _) n)) M.out.2.1 M.out.2.2).mono fun _ _ h => ⟨h.1, n, h.2⟩)
                simp only [Nat.zero_mul, Nat.add_zero] at c0 c1 c2
                clear o6 b6 HE HW h0 T_5 B_5 HA
                go_wp2_with fail
                go_quiet (exact HCS.out _)
                go_wp2_with fail
                go_ret
                exact ⟨rfl, belowDrewN B_6.out _⟩
    · have eM := mayX_not hM
      clear hM
      go_enter Try.func6, Try.ntmps6
      go_wp2_with fail
      refine (awake_any _).mono ?_
      rintro e w1 ⟨rfl, b1⟩
      have T_1 := Lib.hid (T_0.out.up b1)
      have B_1 := Lib.hid (b1)
      clear b1 T_0
      go_wp2_with fail
      refine (refMay_any A0 len0 cap0 _ l L0.out T_1.out (by omega)).mono ?_
      rintro e w2 ⟨rfl, b2⟩
      have T_2 := Lib.hid (T_1.out.up b2)
      have B_2 := Lib.hid (below_up B_1.out b2)
      rw [eM]
      clear b2 T_1 B_1
      go_wp2_with fail
      refine (awake_any _).mono ?_
      rintro e w3 ⟨rfl, b3⟩
      have T_3 := Lib.hid (T_2.out.up b3)
      have B_3 := Lib.hid (below_up B_2.out b3)
      clear b3 T_2 B_2
      go_wp2_with fail
      go_ret
      exact ⟨rfl, B_3.out⟩
  · have d60 : decide (60 < (len0 : Int)) = true := decide_eq_true (by omega)
    go_enter Try.func6, Try.ntmps6
    go_wp2_with fail
    refine (awake_any _).mono ?_
    rintro e w1 ⟨rfl, b1⟩
    have T_1 := Lib.hid (T_0.out.up b1)
    have B_1 := Lib.hid (b1)
    clear b1 T_0
    go_wp2_with fail
    refine (awake_any _).mono ?_
    rintro e w2 ⟨rfl, b2⟩
    have T_2 := Lib.hid (T_1.out.up b2)
    have B_2 := Lib.hid (below_up B_1.out b2)
    clear b2 T_1 B_1
    go_wp2_with fail
    go_ret
    exact ⟨rfl, B_2.out⟩
end Go.Proofs.Ytdpjblepcpjomaa.Rb
