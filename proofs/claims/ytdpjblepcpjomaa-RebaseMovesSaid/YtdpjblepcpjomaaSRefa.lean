/-
  What the reference's May, Size, First and Join answer: the same as the program's, for every list (First: of a list that may be).
-/
import Derived.Test.YtdpjblepcpjomaaSWalkc
import Derived.Test.YtdpjblepcpjomaaSFresh
namespace Go.Proofs.Ytdpjblepcpjomaa.Sc
open Go.RowKit
theorem refMay_any (A : Option Addr) (len cap : Nat) (w : World) (l : List S) (hlen : l.length = len) (hr : Rd w w.heap.size A l) (hm : len ≤ 9223372036854775807) :
    Calls Try.prog 26 #[.slice A len cap] w fun e w' => e = .returned (.bool (mayB l)) ∧ Below w.heap.size w w' := by
  go_enter Try.func26, Try.ntmps26
  go_wp2_with fail
  have H := Lib.hid hlen; clear hlen
  go_loopw [3, 4] (fun s i wr => ∃ k : Nat, k ≤ len ∧ i = .int .i64 k ∧ s = .int .i64 (tot (l.take k)) ∧ MayP (l.take k) ∧ Below w.heap.size w wr) (fun _ i _ => len - (intOf i).toNat)
  case atStart => exact ⟨0, Nat.zero_le _, rfl, rfl, ⟨fun s hs => by simp at hs, by simp [tot]⟩, Below.refl _ _⟩
  case round =>
    obtain ⟨k, hk, rfl, rfl, hmay, hb⟩ := hrel
    have p0 := tot_nonneg (l.take k) hmay.1
    have p1 := hmay.2
    by_cases hlt : k < len
    · obtain ⟨s, hs⟩ := get_some l k (by have := H.out; omega)
      have e1 := tot_take_succ l k s hs
      obtain ⟨b, off, rfl, hb', h0, h1, h2⟩ := hr.below hb (Nat.le_refl _) k s hs
      have E1 := Lib.hid e1
      have stp := Lib.hid (@may_stop l k s hs)
      have stq := Lib.hid (@may_step l k s hs hmay)
      clear hr e1 hs hb' hmay
      generalize tot (l.take k) = T at *
      go_wp2_with fail
      case roundEnd =>
        go_roundw
        case rel => exact ⟨k+1, by omega, by go_num, by rw [E1.out], (by exact stq.out (by unfold okS; omega) (by omega)), hb.alloc hb.size _⟩
        case measure => simp [intOf]; omega
      all_goals
        go_ret
        exact ⟨ret_bool (mayB_not (stp.out (by unfold okS; omega))).symm, hb.alloc hb.size _⟩
    · obtain rfl : k = len := by omega
      clear hlt
      have e2 : l.take k = l := by rw [List.take_of_length_le (Nat.le_of_eq H.out)]
      rw [e2] at hmay
      have e3 := mayB_of hmay
      clear hmay
      go_wp2_with fail
      go_ret
      exact ⟨ret_bool e3.symm, hb⟩
theorem refSize_any (A : Option Addr) (len cap : Nat) (w : World) (l : List S) (hlen : l.length = len) (hr : Rd w w.heap.size A l) (hL : Ok l) (ht : tot l ≤ 1099511627776) :
    Calls Try.prog 25 #[.slice A len cap] w fun e w' => e = .returned (.int .i64 (tot l)) ∧ Below w.heap.size w w' := by
  have hm := len_le_tot l hL
  rw [hlen] at hm
  go_enter Try.func25, Try.ntmps25
  go_wp2_with fail
  have H := Lib.hid hlen; clear hlen
  go_loopw [3, 4] (fun s i wr => ∃ k : Nat, k ≤ len ∧ i = .int .i64 k ∧ s = .int .i64 (tot (l.take k)) ∧ Below w.heap.size w wr) (fun _ i _ => len - (intOf i).toNat)
  case atStart => exact ⟨0, Nat.zero_le _, rfl, rfl, Below.refl _ _⟩
  case round =>
    obtain ⟨k, hk, rfl, rfl, hb⟩ := hrel
    have p1 := tot_take_le l hL k
    have p0 := tot_nonneg (l.take k) (hL.take k)
    by_cases hlt : k < len
    · obtain ⟨s, hs⟩ := get_some l k (by have := H.out; omega)
      have e1 := tot_take_succ l k s hs
      have q1 := tot_take_le l hL (k+1)
      have q2 := (hL.at_ hs).2.2.2.1
      obtain ⟨b, off, rfl, hb', h0, h1, h2⟩ := hr.below hb (Nat.le_refl _) k s hs
      have E1 := Lib.hid e1
      have q3 : tot (l.take k) + s.len ≤ 1099511627776 := by omega
      clear hr e1 hs hb'
      go_wp2_with fail
      go_roundw
      case rel => exact ⟨k+1, by omega, by go_num, by rw [E1.out], hb⟩
      case measure => simp [intOf]; omega
    · obtain rfl : k = len := by omega
      clear hlt
      have e2 : tot (l.take k) = tot l := by rw [List.take_of_length_le (Nat.le_of_eq H.out)]
      go_wp2_with fail
      go_ret
      exact ⟨ret_int e2, hb⟩

set_option maxHeartbeats 800000 in
theorem refJoin_any (A : Option Addr) (len cap : Nat) (w : World) (l : List S) (hlen : l.length = len) (hr : Rd w w.heap.size A l) (hL : Ok l) (ht : tot l ≤ 1099511627776) :
    Calls Try.prog 41 #[.slice A len cap] w fun e w' => (∃ A' n c, e = .returned (.slice A' n c) ∧ Own w' w.heap.size A' n c (joinL l)) ∧ Below w.heap.size w w' := by
  have hm := len_le_tot l hL
  rw [hlen] at hm
  obtain ⟨i0, hi, hz0, hz1, hz2⟩ := info_parts info31
  have HR := Lib.hid hr; have HL := Lib.hid hL
  clear hr hL
  go_enter Try.func41, Try.ntmps41
  go_wp2_with fail
  have H := Lib.hid hlen; clear hlen
  generalize hBB : w.heap.size = BB at *
  have HB := Lib.hid hBB; clear hBB
  go_loopw [3, 4] (fun v i wr => ∃ k A' n c, k ≤ len ∧ i = .int .i64 k ∧ v = .slice A' n c ∧ Own wr BB A' n c (joinL (l.take k)) ∧ Below BB w wr) (fun _ i _ => len - (intOf i).toNat)
  case atStart => exact ⟨0, _, _, _, Nat.zero_le _, rfl, rfl, Own.nil _ _, Below.refl _ _⟩
  case round =>
    obtain ⟨k, A', n, c, hk, rfl, rfl, hown, hb⟩ := hrel
    have HO := Lib.hid hown
    have HBel := Lib.hid hb
    by_cases hlt : k < len
    · obtain ⟨s, hs⟩ := get_some l k (by have := H.out; omega)
      obtain ⟨b2, off2, rfl, hb2, c0, c1, c2⟩ := HR.out.below hb (Nat.le_refl _) k s hs
      have hsz : BB ≤ wr.heap.size := by have := hb.size; have := HB.out; omega
      have hb2w : b2 < wr.heap.size := by omega
      have e1 := take_snoc l k s hs
      have sJ : joinL (l.take (k+1)) = glue (joinL (l.take k)) s := by rw [e1, joinL_snoc]
      have oks := HL.out.at_ hs
      have okJ := joinL_ok (HL.out.take k)
      have hlenJ := joinL_length (l.take k)
      have h4 : (l.take k).length ≤ k := List.length_take_le _ _
      have hJ := hown.1
      have hn : n ≤ k := by omega
      have tj := tot_take_succ l k s hs
      have tk := tot_take_le l HL.out (k+1)
      have SJ := Lib.hid sJ
      clear e1 hs hlenJ h4 sJ hown hb tj tk
      generalize joinL (l.take k) = J at *
      rcases snoc_cases J with rfl | ⟨L, t, rfl⟩
      · obtain rfl : n = 0 := by simpa using hJ.symm
        clear hJ
        go_wp2_with fail
        go_quiet (fail)
        go_wp2_with (at_builtin; refine wpList_append_own _ rfl _ _ 22 rfl BB 56 i0 _ 3 24 Try.underlying22 hi hz0 hz1 hz2 rfl (by decide) _ _ _ rfl ((HO.out.alloc _).drewN nq).2 ⟨wr.heap.size, 0, none⟩ 1 1 (cells [s]) rfl rfl (new_one _ s _ (by simp)) (cells_one_cell _) (by unfold maxLen; omega) (by omega) (by simp; omega) ?_)
        intro v' w1 hown' hgrow _
        obtain ⟨⟨A'', c'', hv, hown2⟩, hb3, hst, hz3, hcl⟩ := app_step HO.out HBel.out hsz ((belowDrewN (Below.refl _ _) nq).alloc (by simp) _) hown' hgrow
        rw [hv]
        clear hcl hgrow hown' hv
        go_wp2_with fail
        go_roundw
        case rel => exact ⟨k+1, A'', 0+1, c'', by omega, by go_num, rfl, by rw [SJ.out, glue_nil]; exact hown2, hb3⟩
        case measure => simp [intOf]; omega
      · obtain ⟨m, rfl⟩ : ∃ m, n = m + 1 := ⟨L.length, by simpa using hJ.symm⟩
        obtain ⟨g, rfl, hg1, hg2, t0, t1, t2, t3⟩ := HO.out.last
        clear hJ
        obtain ⟨u1, u2, u3, u4, u5⟩ := okJ t (by simp)
        obtain ⟨v1, v2, v3, v4, v5⟩ := oks
        by_cases ca : t.src = s.src
        · by_cases cb : t.at_ + t.len = s.at_
          · have f1 : (t.src == s.src) = true := by simpa using ca
            have f2 : (t.at_ + t.len == s.at_) = true := by simpa using cb
            have f3 : t.len + s.len ≤ 1099511627776 := by omega
            have W1 : IntKind.i64.wrap (t.at_ + t.len) = t.at_ + t.len := IntWalk.i64_in _ (by omega)
            have CA := Lib.hid ca
            have CB := Lib.hid cb
            clear ca cb
            go_wp2_with fail
            go_quiet (fail)
            clear W1
            go_wp2_with fail
            go_region
            go_wp2_with fail
            go_roundw
            case rel =>
              refine ⟨k+1, some ⟨g, 0, none⟩, m+1, c, by omega, by go_num, rfl, ?_, ?_⟩
              · rw [SJ.out, glue_yes _ _ _ ⟨CA.out, CB.out⟩]
                exact (HO.out.drewN _).setLast _
              · exact (belowDrewN HBel.out _).setCell hg1 _
            case measure => simp [intOf]; omega
          · have f1 : (t.src == s.src) = true := by simpa using ca
            have f2 : (t.at_ + t.len == s.at_) = false := by simpa using cb
            have W1 : IntKind.i64.wrap (t.at_ + t.len) = t.at_ + t.len := IntWalk.i64_in _ (by omega)
            have CA := Lib.hid ca
            have CB := Lib.hid cb
            clear ca cb
            go_wp2_with fail
            go_quiet (fail)
            clear W1
            go_wp2_with (at_builtin; refine wpList_append_own _ rfl _ _ 22 rfl BB 56 i0 _ 3 24 Try.underlying22 hi hz0 hz1 hz2 rfl (by decide) _ _ _ rfl ((HO.out.alloc _).drewN nq).2 ⟨wr.heap.size, 0, none⟩ 1 1 (cells [s]) rfl rfl (new_one _ s _ (by simp)) (cells_one_cell _) (by unfold maxLen; omega) (by omega) (by simp; omega) ?_)
            intro v' w1 hown' hgrow _
            obtain ⟨⟨A'', c'', hv, hown2⟩, hb3, hst, hz3, hcl⟩ := app_step HO.out HBel.out hsz ((belowDrewN (Below.refl _ _) nq).alloc (by simp) _) hown' hgrow
            rw [hv]
            clear hcl hgrow hown' hv
            go_wp2_with fail
            go_roundw
            case rel => exact ⟨k+1, A'', m+1+1, c'', by omega, by go_num, rfl, by rw [SJ.out, glue_no _ _ _ (fun h => CB.out h.2)]; exact hown2, hb3⟩
            case measure => simp [intOf]; omega
        · have f1 : (t.src == s.src) = false := by simpa using ca
          have CA := Lib.hid ca
          clear ca
          go_wp2_with fail
          go_quiet (fail)
          go_wp2_with (at_builtin; refine wpList_append_own _ rfl _ _ 22 rfl BB 56 i0 _ 3 24 Try.underlying22 hi hz0 hz1 hz2 rfl (by decide) _ _ _ rfl ((HO.out.alloc _).drewN nq).2 ⟨wr.heap.size, 0, none⟩ 1 1 (cells [s]) rfl rfl (new_one _ s _ (by simp)) (cells_one_cell _) (by unfold maxLen; omega) (by omega) (by simp; omega) ?_)
          intro v' w1 hown' hgrow _
          obtain ⟨⟨A'', c'', hv, hown2⟩, hb3, hst, hz3, hcl⟩ := app_step HO.out HBel.out hsz ((belowDrewN (Below.refl _ _) nq).alloc (by simp) _) hown' hgrow
          rw [hv]
          clear hcl hgrow hown' hv
          go_wp2_with fail
          go_roundw
          case rel => exact ⟨k+1, A'', m+1+1, c'', by omega, by go_num, rfl, by rw [SJ.out, glue_no _ _ _ (fun h => CA.out h.1)]; exact hown2, hb3⟩
          case measure => simp [intOf]; omega
    · obtain rfl : k = len := by omega
      clear hlt
      have e2 : l.take k = l := by rw [List.take_of_length_le (Nat.le_of_eq H.out)]
      rw [e2] at hown
      go_wp2_with fail
      go_ret
      obtain rfl := HB.out
      exact ⟨⟨_, _, _, rfl, hown⟩, HBel.out⟩
end Go.Proofs.Ytdpjblepcpjomaa.Sc
