/-
  SD: texts of one kind, one behind the other.
-/
import Derived.Test.YteceephenfmdoaaSC
import Derived.Test.YteceephenfmdoaaSA
import Derived.Laws.StructEq
import Derived.Test.YteceephenfmdoaaSB
/-
  What scrap.Text answers, for every list and all sources.
-/
namespace Go.Proofs.Yteceephenfmdoaa.Sc
open Go.RowKit
theorem info5 : (Try.prog.info? 5).map (fun i => (i.zero, i.size, i.bytes)) = some (some (.int .u8 0), 1, 1) := by kernel_rfl
open Classical in
noncomputable def TextE (srcs : List (List Int)) (l : List S) : Int := if MayP l then textE srcs l else 1
open Classical in
noncomputable def TextL (srcs : List (List Int)) (l : List S) : List Int := if TextE srcs l = 0 then textB srcs l else []

theorem TextL_err {srcs : List (List Int)} {l : List S} (h : TextE srcs l ≠ 0) : TextL srcs l = [] := by unfold TextL; rw [if_neg h]
theorem TextL_ok {srcs : List (List Int)} {l : List S} (h : TextE srcs l = 0) : TextL srcs l = textB srcs l := by unfold TextL; rw [if_pos h]
/-- What Text's loop answers, and the reference's. -/
def TextR (w : World) (srcs : List (List Int)) (l : List S) (e : Ending) (w' : World) : Prop :=
  (∃ A' n c, e = .returned (.tuple #[.slice A' n c, .int .i64 (TextE srcs l)]) ∧ OwnB w' w.heap.size A' n c (TextL srcs l)) ∧ Below w.heap.size w w'

set_option maxRecDepth 100000 in
set_option maxHeartbeats 800000 in
theorem Text_any (A : Option Addr) (len cap : Nat) (As : Option Addr) (ns cs : Nat) (w : World) (l : List S) (srcs : List (List Int)) (hlen : l.length = len) (hr : Rd w w.heap.size A l) (hm : len ≤ 9223372036854775807)
    (hls : srcs.length = ns) (hrs : RdBL w w.heap.size As srcs) (_hms : ns ≤ 9223372036854775807) :
    Calls Try.prog 58 #[.slice A len cap, .slice As ns cs] w (TextR w srcs l) := by
  have H := Lib.hid hlen; have HR := Lib.hid hr
  have HLS := Lib.hid hls; have HRS := Lib.hid hrs
  clear hlen hr hls hrs
  obtain ⟨i0, hi, hz0, hz1, hz2⟩ := info_parts info5
  by_cases hM : MayP l
  · have e1 := mayB_of hM
    have t1 := hM.2
    have HM := Lib.hid hM
    have hTE : TextE srcs l = textE srcs l := by unfold TextE; rw [if_pos hM]
    have HTE := Lib.hid hTE
    clear hM hTE
    go_enter Try.func58, Try.ntmps58
    go_wp2_with fail
    refine (may_any A len cap _ l H.out HR.out hm).mono ?_
    rintro e w1 ⟨rfl, hb1⟩
    have HR1 := Lib.hid (HR.out.up hb1)
    have HRS1 := Lib.hid (HRS.out.up hb1)
    have HB1 := Lib.hid hb1
    clear hb1
    go_wp2_with fail
    generalize hBB : w1.heap.size = BB at *
    have HBB := Lib.hid hBB; clear hBB
    go_loopw [6, 15] (fun v i wr => ∃ k A' n c, k ≤ len ∧ i = .int .i64 k ∧ v = .slice A' n c ∧ Hid (∀ s ∈ l.take k, Has srcs s) ∧ OwnB wr BB A' n c (textB srcs (l.take k)) ∧ Below BB w1 wr) (fun _ i _ => len - (intOf i).toNat)
    case atStart => exact ⟨0, _, _, _, Nat.zero_le _, rfl, rfl, Lib.hid (fun s hs => by simp at hs), OwnB.nil _ _, Below.refl _ _⟩
    case round =>
      obtain ⟨k, A', n, c, hk, rfl, rfl, hhas, hown, hb⟩ := hrel
      have HO := Lib.hid hown
      have HBel := Lib.hid hb
      have hsz : BB ≤ wr.heap.size := by have := hb.size; have := HBB.out; omega
      by_cases hlt : k < len
      · obtain ⟨s, hs⟩ := get_some l k (by have := H.out; omega)
        have hTA := textE_at hs hhas.out
        have e1 := tot_take_succ l k s hs
        have q1 := tot_take_le l HM.out.1 (k+1)
        have hn : (n : Int) = tot (l.take k) := by rw [← textB_length hhas.out (HM.out.1.take k), hown.1]
        have hn2 : (n : Int) + s.len ≤ 1099511627776 := by omega
        have HTB := Lib.hid (@textB_snoc srcs l k s hs)
        have HHT := Lib.hid (@has_take srcs l k s hs hhas.out)
        obtain ⟨o1, o2, o3, o4, o5⟩ := HM.out.1.at_ hs
        obtain ⟨b, off, rfl, hb', h0, h1, h2⟩ := HR1.out.below hb (by omega) k s hs
        obtain ⟨src, at_, slen⟩ := s
        simp only at *
        obtain ⟨σ, rfl⟩ := Int.eq_ofNat_of_zero_le o1
        obtain ⟨α, rfl⟩ := Int.eq_ofNat_of_zero_le o3
        obtain ⟨μ, rfl⟩ := Int.eq_ofNat_of_zero_le (show 0 ≤ slen by omega)
        have HTA := Lib.hid hTA
        clear hTA e1 q1 hn hs hb' hown hb
        by_cases hσ : ns ≤ σ
        · have hE : TextE srcs l = 6 := by
            rw [HTE.out, HTA.out, textE, if_pos (by have := HLS.out; simp only; omega)]
          have HE := Lib.hid hE
          clear hE
          go_wp2_with fail
          go_ret2
          refine ⟨⟨_, _, _, by rw [HE.out]; rfl, ?_⟩, HB1.out.trans ((HBel.out.alloc hsz _).mono (by have := HB1.out.size; have := HBB.out; omega))⟩
          rw [TextL_err (by rw [HE.out]; decide)]
          exact OwnB.nil _ _
        · obtain ⟨t, ht⟩ := get_some srcs σ (by have := HLS.out; omega)
          have hsrc : srcOf srcs ⟨σ, α, μ⟩ = t := by unfold srcOf; rw [Int.toNat_natCast, List.getD_eq_getElem?_getD, ht]; rfl
          obtain ⟨b2, off2, Ak, ck, rfl, hb2, c0, c1, c2, hrb⟩ := HRS1.out.below HBel.out (by have := HBB.out; omega) σ t ht
          have hTA2 := HTA.out
          rw [textE, if_neg (by have := HLS.out; simp only; omega), hsrc] at hTA2
          simp only at hTA2
          unfold maxLen at c2
          have hb2w : b2 < wr.heap.size := by have := HBB.out; omega
          by_cases hbd : (t.length : Int) < α ∨ (t.length : Int) - α < μ
          · have hE : TextE srcs l = 2 := by rw [HTE.out, hTA2, if_pos hbd]
            have HE := Lib.hid hE
            clear hE hTA2 hsrc ht hrb
            go_wp2_with fail
            all_goals
              go_ret2
              refine ⟨⟨_, _, _, by rw [HE.out]; rfl, ?_⟩, HB1.out.trans ((HBel.out.alloc hsz _).mono (by have := HB1.out.size; have := HBB.out; omega))⟩
              rw [TextL_err (by rw [HE.out]; decide)]
              exact OwnB.nil _ _
          · have d0 : α ≤ t.length := by omega
            have d1 : α + μ ≤ t.length := by omega
            have hHas : Has srcs ⟨σ, α, μ⟩ := by
              unfold Has; rw [hsrc]; have := HLS.out; simp only; omega
            obtain ⟨u, hu⟩ := get_some t 0 (by omega)
            obtain ⟨b3, off3, rfl, hb3, _⟩ := hrb 0 u hu
            have hP : pieceB srcs ⟨σ, α, μ⟩ = (t.drop α).take μ := by unfold pieceB; rw [hsrc]; rfl
            have hPl : ((t.drop α).take μ).length = μ := by simp; omega
            have HP := Lib.hid hP; have HPl := Lib.hid hPl; have HHas := Lib.hid hHas
            have HPI := Lib.hid ((hrb.piece α μ).more (B' := BB) (by have := HBB.out; omega))
            have hck : (ck = α) = False := by simp; omega
            clear hP hPl hHas hrb hu hTA2 hsrc ht hbd
            go_wp2_with (at_builtin; (refine wpList_append_own _ rfl _ _ 22 rfl BB 5 i0 _ 1 1 Try.underlying22 hi hz0 hz1 hz2 rfl (by decide) _ _ _ rfl (HO.out.alloc _).2 _ _ _ (bcells ((t.drop α).take μ)) rfl ?c0 ?c1 ?c2 ?c3 ?c4 ?c5 ?_))
            case c0 => rw [bcells, List.length_map, HPl.out]; omega
            case c1 => exact (HPI.out.alloc hsz _).cells
            case c2 => exact bcells_one _
            case c3 => unfold maxLen; omega
            case c4 => omega
            case c5 => simp; omega
            intro v' w2 hown' hgrow _
            obtain ⟨⟨A'', c'', hv, hown2⟩, hb2', _, hz3, hcl⟩ := appB_step HO.out HBel.out hsz ((Below.refl _ _).alloc (Nat.le_refl _) _) HPl.out hown' hgrow
            rw [hv]
            clear hcl hgrow hown' hv
            go_wp2
            go_roundw
            case rel => exact ⟨k+1, A'', n+μ, c'', by omega, by go_num, rfl, Lib.hid (HHT.out HHas.out), by rw [HTB.out, HP.out]; exact hown2, hb2'⟩
            case measure => simp [intOf]; omega
      · obtain rfl : k = len := by omega
        clear hlt
        have e2 : l.take k = l := by rw [List.take_of_length_le (Nat.le_of_eq H.out)]
        rw [e2] at hown hhas
        have hE : TextE srcs l = 0 := by rw [HTE.out, textE_all hhas.out]
        have HE := Lib.hid hE
        clear hE
        go_wp2_with fail
        go_ret2
        refine ⟨⟨_, _, _, by rw [HE.out]; rfl, ?_⟩, HB1.out.trans (HBel.out.mono (by have := HB1.out.size; have := HBB.out; omega))⟩
        rw [TextL_ok HE.out]
        exact hown.mono (by have := HB1.out.size; have := HBB.out; omega)
  · have e1 := mayB_not hM
    have hTE : TextE srcs l = 1 := by unfold TextE; rw [if_neg hM]
    have hTL : TextL srcs l = [] := by unfold TextL; rw [if_neg (by rw [hTE]; decide)]
    have HTE := Lib.hid hTE
    have HTL := Lib.hid hTL
    clear hM hTE hTL
    go_enter Try.func58, Try.ntmps58
    go_wp2_with fail
    refine (may_any A len cap _ l H.out HR.out hm).mono ?_
    rintro e w1 ⟨rfl, hb1⟩
    go_wp2_with fail
    go_ret2
    refine ⟨⟨_, _, _, by rw [HTE.out]; rfl, ?_⟩, hb1⟩
    rw [HTL.out]
    exact OwnB.nil _ _
end Go.Proofs.Yteceephenfmdoaa.Sc

/-
  That octavoref10.Same is true of two slices that read as one list.
-/
namespace Go.Proofs.Yteceephenfmdoaa.Sc
open Go.RowKit
set_option maxRecDepth 100000 in
theorem Same_true (A : Option Addr) (len cap : Nat) (A2 : Option Addr) (len2 cap2 : Nat) (w : World) (l : List S) (hlen : l.length = len) (hr : Rd w w.heap.size A l) (hm : len ≤ 9223372036854775807) (hlen2 : len2 = len) (hr2 : Rd w w.heap.size A2 l) :
    Calls Try.prog 48 #[.slice A len cap, .slice A2 len2 cap2] w fun e w' => e = .returned (.bool true) ∧ Below w.heap.size w w' := by
  subst hlen2
  have H := Lib.hid hlen; have HR := Lib.hid hr; have HR2 := Lib.hid hr2
  clear hlen hr hr2
  go_enter Try.func48, Try.ntmps48
  go_wp2_with fail
  go_loopw [5] (fun i wr => ∃ k : Nat, k ≤ len2 ∧ i = .int .i64 k ∧ Below w.heap.size w wr) (fun i _ => len2 - (intOf i).toNat)
  case atStart => exact ⟨0, Nat.zero_le _, rfl, Below.refl _ _⟩
  case round =>
    obtain ⟨k, hk, rfl, hb⟩ := hrel
    by_cases hlt : k < len2
    · obtain ⟨s, hs⟩ := get_some l k (by have := H.out; omega)
      obtain ⟨b, off, rfl, hb', h0, h1, h2⟩ := HR.out.below hb (by omega) k s hs
      obtain ⟨b2, off2, rfl, hb2', g0, g1, g2⟩ := HR2.out.below hb (by omega) k s hs
      clear hs
      go_wp2_with fail
      go_quiet (fail)
      go_wp2_with fail
      go_roundw
      case rel => exact ⟨k+1, by omega, by go_num, belowDrewN hb _⟩
      case measure => simp [intOf]; omega
    · obtain rfl : k = len2 := by omega
      clear hlt
      go_wp2_with fail
      go_ret
      exact ⟨rfl, hb⟩
end Go.Proofs.Yteceephenfmdoaa.Sc

/-
  What the reference's May, Size, First and Join answer: the same as the program's, for every list (First: of a list that may be).
-/
namespace Go.Proofs.Yteceephenfmdoaa.Sc
open Go.RowKit
set_option maxRecDepth 100000 in
theorem refMay_any (A : Option Addr) (len cap : Nat) (w : World) (l : List S) (hlen : l.length = len) (hr : Rd w w.heap.size A l) (hm : len ≤ 9223372036854775807) :
    Calls Try.prog 26 #[.slice A len cap] w fun e w' => e = .returned (.bool (mayB l)) ∧ Below w.heap.size w w' := by
  go_enter Try.func26, Try.ntmps26
  go_wp2_with fail
  have H := Lib.hid hlen; clear hlen
  go_loopw [3, 4] (fun s i wr => ∃ k : Nat, k ≤ len ∧ i = .int .i64 k ∧ s = .int .i64 (tot (l.take k)) ∧ MayP (l.take k) ∧ Below w.heap.size w wr) (fun _ i _ => len - (intOf i).toNat)
  case atStart => exact ⟨0, Nat.zero_le _, rfl, rfl, ⟨fun s hs => by simp at hs, by simp [tot]⟩, Below.refl _ _⟩
  case round =>
    obtain ⟨k, hk, rfl, rfl, hmay, hb⟩ := hrel
    have p0 := tot_nonneg (l.take k) hmay.1
    have p1 := hmay.2
    by_cases hlt : k < len
    · obtain ⟨s, hs⟩ := get_some l k (by have := H.out; omega)
      have e1 := tot_take_succ l k s hs
      obtain ⟨b, off, rfl, hb', h0, h1, h2⟩ := hr.below hb (Nat.le_refl _) k s hs
      have E1 := Lib.hid e1
      have stp := Lib.hid (@may_stop l k s hs)
      have stq := Lib.hid (@may_step l k s hs hmay)
      clear hr e1 hs hb' hmay
      generalize tot (l.take k) = T at *
      go_wp2_with fail
      case roundEnd =>
        go_roundw
        case rel => exact ⟨k+1, by omega, by go_num, by rw [E1.out], (by exact stq.out (by unfold okS; omega) (by omega)), hb.alloc hb.size _⟩
        case measure => simp [intOf]; omega
      all_goals
        go_ret
        exact ⟨ret_bool (mayB_not (stp.out (by unfold okS; omega))).symm, hb.alloc hb.size _⟩
    · obtain rfl : k = len := by omega
      clear hlt
      have e2 : l.take k = l := by rw [List.take_of_length_le (Nat.le_of_eq H.out)]
      rw [e2] at hmay
      have e3 := mayB_of hmay
      clear hmay
      go_wp2_with fail
      go_ret
      exact ⟨ret_bool e3.symm, hb⟩
set_option maxRecDepth 100000 in
theorem refSize_any (A : Option Addr) (len cap : Nat) (w : World) (l : List S) (hlen : l.length = len) (hr : Rd w w.heap.size A l) (hL : Ok l) (ht : tot l ≤ 1099511627776) :
    Calls Try.prog 27 #[.slice A len cap] w fun e w' => e = .returned (.int .i64 (tot l)) ∧ Below w.heap.size w w' := by
  have hm := len_le_tot l hL
  rw [hlen] at hm
  go_enter Try.func27, Try.ntmps27
  go_wp2_with fail
  have H := Lib.hid hlen; clear hlen
  go_loopw [3, 4] (fun s i wr => ∃ k : Nat, k ≤ len ∧ i = .int .i64 k ∧ s = .int .i64 (tot (l.take k)) ∧ Below w.heap.size w wr) (fun _ i _ => len - (intOf i).toNat)
  case atStart => exact ⟨0, Nat.zero_le _, rfl, rfl, Below.refl _ _⟩
  case round =>
    obtain ⟨k, hk, rfl, rfl, hb⟩ := hrel
    have p1 := tot_take_le l hL k
    have p0 := tot_nonneg (l.take k) (hL.take k)
    by_cases hlt : k < len
    · obtain ⟨s, hs⟩ := get_some l k (by have := H.out; omega)
      have e1 := tot_take_succ l k s hs
      have q1 := tot_take_le l hL (k+1)
      have q2 := (hL.at_ hs).2.2.2.1
      obtain ⟨b, off, rfl, hb', h0, h1, h2⟩ := hr.below hb (Nat.le_refl _) k s hs
      have E1 := Lib.hid e1
      have q3 : tot (l.take k) + s.len ≤ 1099511627776 := by omega
      clear hr e1 hs hb'
      go_wp2_with fail
      go_roundw
      case rel => exact ⟨k+1, by omega, by go_num, by rw [E1.out], hb⟩
      case measure => simp [intOf]; omega
    · obtain rfl : k = len := by omega
      clear hlt
      have e2 : tot (l.take k) = tot l := by rw [List.take_of_length_le (Nat.le_of_eq H.out)]
      go_wp2_with fail
      go_ret
      exact ⟨ret_int e2, hb⟩

set_option maxRecDepth 100000 in
set_option maxHeartbeats 800000 in
theorem refJoin_any (A : Option Addr) (len cap : Nat) (w : World) (l : List S) (hlen : l.length = len) (hr : Rd w w.heap.size A l) (hL : Ok l) (ht : tot l ≤ 1099511627776) :
    Calls Try.prog 51 #[.slice A len cap] w fun e w' => (∃ A' n c, e = .returned (.slice A' n c) ∧ Own w' w.heap.size A' n c (joinL l)) ∧ Below w.heap.size w w' := by
  have hm := len_le_tot l hL
  rw [hlen] at hm
  obtain ⟨i0, hi, hz0, hz1, hz2⟩ := info_parts info31
  have HR := Lib.hid hr; have HL := Lib.hid hL
  clear hr hL
  go_enter Try.func51, Try.ntmps51
  go_wp2_with fail
  have H := Lib.hid hlen; clear hlen
  generalize hBB : w.heap.size = BB at *
  have HB := Lib.hid hBB; clear hBB
  go_loopw [3, 4] (fun v i wr => ∃ k A' n c, k ≤ len ∧ i = .int .i64 k ∧ v = .slice A' n c ∧ Own wr BB A' n c (joinL (l.take k)) ∧ Below BB w wr) (fun _ i _ => len - (intOf i).toNat)
  case atStart => exact ⟨0, _, _, _, Nat.zero_le _, rfl, rfl, Own.nil _ _, Below.refl _ _⟩
  case round =>
    obtain ⟨k, A', n, c, hk, rfl, rfl, hown, hb⟩ := hrel
    have HO := Lib.hid hown
    have HBel := Lib.hid hb
    by_cases hlt : k < len
    · obtain ⟨s, hs⟩ := get_some l k (by have := H.out; omega)
      obtain ⟨b2, off2, rfl, hb2, c0, c1, c2⟩ := HR.out.below hb (Nat.le_refl _) k s hs
      have hsz : BB ≤ wr.heap.size := by have := hb.size; have := HB.out; omega
      have hb2w : b2 < wr.heap.size := by omega
      have e1 := take_snoc l k s hs
      have sJ : joinL (l.take (k+1)) = glue (joinL (l.take k)) s := by rw [e1, joinL_snoc]
      have oks := HL.out.at_ hs
      have okJ := joinL_ok (HL.out.take k)
      have hlenJ := joinL_length (l.take k)
      have h4 : (l.take k).length ≤ k := List.length_take_le _ _
      have hJ := hown.1
      have hn : n ≤ k := by omega
      have tj := tot_take_succ l k s hs
      have tk := tot_take_le l HL.out (k+1)
      have SJ := Lib.hid sJ
      clear e1 hs hlenJ h4 sJ hown hb tj tk
      generalize joinL (l.take k) = J at *
      rcases snoc_cases J with rfl | ⟨L, t, rfl⟩
      · obtain rfl : n = 0 := by simpa using hJ.symm
        clear hJ
        go_wp2_with fail
        go_quiet (fail)
        go_wp2_with (at_builtin; refine wpList_append_own _ rfl _ _ 26 rfl BB 48 i0 _ 3 24 Try.underlying26 hi hz0 hz1 hz2 rfl (by decide) _ _ _ rfl ((HO.out.alloc _).drewN nq).2 ⟨wr.heap.size, 0, none⟩ 1 1 (cells [s]) rfl rfl (new_one _ s _ (by simp)) (cells_one_cell _) (by unfold maxLen; omega) (by omega) (by simp; omega) ?_)
        intro v' w1 hown' hgrow _
        obtain ⟨⟨A'', c'', hv, hown2⟩, hb3, hst, hz3, hcl⟩ := app_step HO.out HBel.out hsz ((belowDrewN (Below.refl _ _) nq).alloc (by simp) _) hown' hgrow
        rw [hv]
        clear hcl hgrow hown' hv
        go_wp2_with fail
        go_roundw
        case rel => exact ⟨k+1, A'', 0+1, c'', by omega, by go_num, rfl, by rw [SJ.out, glue_nil]; exact hown2, hb3⟩
        case measure => simp [intOf]; omega
      · obtain ⟨m, rfl⟩ : ∃ m, n = m + 1 := ⟨L.length, by simpa using hJ.symm⟩
        obtain ⟨g, rfl, hg1, hg2, t0, t1, t2, t3⟩ := HO.out.last
        clear hJ
        obtain ⟨u1, u2, u3, u4, u5⟩ := okJ t (by simp)
        obtain ⟨v1, v2, v3, v4, v5⟩ := oks
        by_cases ca : t.src = s.src
        · by_cases cb : t.at_ + t.len = s.at_
          · have f1 : (t.src == s.src) = true := by simpa using ca
            have f2 : (t.at_ + t.len == s.at_) = true := by simpa using cb
            have f3 : t.len + s.len ≤ 1099511627776 := by omega
            have W1 : IntKind.i64.wrap (t.at_ + t.len) = t.at_ + t.len := IntWalk.i64_in _ (by omega)
            have CA := Lib.hid ca
            have CB := Lib.hid cb
            clear ca cb
            go_wp2_with fail
            go_quiet (fail)
            clear W1
            go_wp2_with fail
            go_region
            go_wp2_with fail
            go_roundw
            case rel =>
              refine ⟨k+1, some ⟨g, 0, none⟩, m+1, c, by omega, by go_num, rfl, ?_, ?_⟩
              · rw [SJ.out, glue_yes _ _ _ ⟨CA.out, CB.out⟩]
                exact (HO.out.drewN _).setLast _
              · exact (belowDrewN HBel.out _).setCell hg1 _
            case measure => simp [intOf]; omega
          · have f1 : (t.src == s.src) = true := by simpa using ca
            have f2 : (t.at_ + t.len == s.at_) = false := by simpa using cb
            have W1 : IntKind.i64.wrap (t.at_ + t.len) = t.at_ + t.len := IntWalk.i64_in _ (by omega)
            have CA := Lib.hid ca
            have CB := Lib.hid cb
            clear ca cb
            go_wp2_with fail
            go_quiet (fail)
            clear W1
            go_wp2_with (at_builtin; refine wpList_append_own _ rfl _ _ 26 rfl BB 48 i0 _ 3 24 Try.underlying26 hi hz0 hz1 hz2 rfl (by decide) _ _ _ rfl ((HO.out.alloc _).drewN nq).2 ⟨wr.heap.size, 0, none⟩ 1 1 (cells [s]) rfl rfl (new_one _ s _ (by simp)) (cells_one_cell _) (by unfold maxLen; omega) (by omega) (by simp; omega) ?_)
            intro v' w1 hown' hgrow _
            obtain ⟨⟨A'', c'', hv, hown2⟩, hb3, hst, hz3, hcl⟩ := app_step HO.out HBel.out hsz ((belowDrewN (Below.refl _ _) nq).alloc (by simp) _) hown' hgrow
            rw [hv]
            clear hcl hgrow hown' hv
            go_wp2_with fail
            go_roundw
            case rel => exact ⟨k+1, A'', m+1+1, c'', by omega, by go_num, rfl, by rw [SJ.out, glue_no _ _ _ (fun h => CB.out h.2)]; exact hown2, hb3⟩
            case measure => simp [intOf]; omega
        · have f1 : (t.src == s.src) = false := by simpa using ca
          have CA := Lib.hid ca
          clear ca
          go_wp2_with fail
          go_quiet (fail)
          go_wp2_with (at_builtin; refine wpList_append_own _ rfl _ _ 26 rfl BB 48 i0 _ 3 24 Try.underlying26 hi hz0 hz1 hz2 rfl (by decide) _ _ _ rfl ((HO.out.alloc _).drewN nq).2 ⟨wr.heap.size, 0, none⟩ 1 1 (cells [s]) rfl rfl (new_one _ s _ (by simp)) (cells_one_cell _) (by unfold maxLen; omega) (by omega) (by simp; omega) ?_)
          intro v' w1 hown' hgrow _
          obtain ⟨⟨A'', c'', hv, hown2⟩, hb3, hst, hz3, hcl⟩ := app_step HO.out HBel.out hsz ((belowDrewN (Below.refl _ _) nq).alloc (by simp) _) hown' hgrow
          rw [hv]
          clear hcl hgrow hown' hv
          go_wp2_with fail
          go_roundw
          case rel => exact ⟨k+1, A'', m+1+1, c'', by omega, by go_num, rfl, by rw [SJ.out, glue_no _ _ _ (fun h => CA.out h.1)]; exact hown2, hb3⟩
          case measure => simp [intOf]; omega
    · obtain rfl : k = len := by omega
      clear hlt
      have e2 : l.take k = l := by rw [List.take_of_length_le (Nat.le_of_eq H.out)]
      rw [e2] at hown
      go_wp2_with fail
      go_ret
      obtain rfl := HB.out
      exact ⟨⟨_, _, _, rfl, hown⟩, HBel.out⟩
end Go.Proofs.Yteceephenfmdoaa.Sc
