/-
  SF: texts of one kind, one behind the other.
-/
import Derived.Test.YtblibmalommdkaaGreatSC
import Derived.Test.YtblibmalommdkaaGreatSA
import Derived.Laws.StructEq
import Derived.Test.YtblibmalommdkaaGreatSB
import Derived.Deep.AppendLies
/-
  SD: texts of one kind, one behind the other.
-/
/-
  What scrap.Text answers, for every list and all sources.
-/
namespace Go.Proofs.YtblibmalommdkaaGreat.Sc
open Go.RowKit
theorem info5 : (Tryz.prog.info? 5).map (fun i => (i.zero, i.size, i.bytes)) = some (some (.int .u8 0), 1, 1) := by kernel_rfl
open Classical in
noncomputable def TextE (srcs : List (List Int)) (l : List S) : Int := if MayP l then textE srcs l else 1
open Classical in
noncomputable def TextL (srcs : List (List Int)) (l : List S) : List Int := if TextE srcs l = 0 then textB srcs l else []

theorem TextL_err {srcs : List (List Int)} {l : List S} (h : TextE srcs l ≠ 0) : TextL srcs l = [] := by unfold TextL; rw [if_neg h]
theorem TextL_ok {srcs : List (List Int)} {l : List S} (h : TextE srcs l = 0) : TextL srcs l = textB srcs l := by unfold TextL; rw [if_pos h]
/-- What Text's loop answers, and the reference's. -/
def TextR (w : World) (srcs : List (List Int)) (l : List S) (e : Ending) (w' : World) : Prop :=
  (∃ A' n c, e = .returned (.tuple #[.slice A' n c, .int .i64 (TextE srcs l)]) ∧ OwnB w' w.heap.size A' n c (TextL srcs l)) ∧ Below w.heap.size w w'

end Go.Proofs.YtblibmalommdkaaGreat.Sc

/-
  That octavoref10.Same is true of two slices that read as one list.
-/
namespace Go.Proofs.YtblibmalommdkaaGreat.Sc
open Go.RowKit
set_option maxRecDepth 100000 in
theorem Same_true (A : Option Addr) (len cap : Nat) (A2 : Option Addr) (len2 cap2 : Nat) (w : World) (l : List S) (hlen : l.length = len) (hr : Rd w w.heap.size A l) (hm : len ≤ 9223372036854775807) (hlen2 : len2 = len) (hr2 : Rd w w.heap.size A2 l) :
    Calls Tryz.prog 53 #[.slice A len cap, .slice A2 len2 cap2] w fun e w' => e = .returned (.bool true) ∧ Below w.heap.size w w' := by
  subst hlen2
  have H := Lib.hid hlen; have HR := Lib.hid hr; have HR2 := Lib.hid hr2
  clear hlen hr hr2
  go_enter Tryz.func53, Tryz.ntmps53
  go_wp2_with fail
  go_loopw [5] (fun i wr => ∃ k : Nat, k ≤ len2 ∧ i = .int .i64 k ∧ Below w.heap.size w wr) (fun i _ => len2 - (intOf i).toNat)
  case atStart => exact ⟨0, Nat.zero_le _, rfl, Below.refl _ _⟩
  case round =>
    obtain ⟨k, hk, rfl, hb⟩ := hrel
    by_cases hlt : k < len2
    · obtain ⟨s, hs⟩ := get_some l k (by have := H.out; omega)
      obtain ⟨b, off, rfl, hb', h0, h1, h2⟩ := HR.out.below hb (by omega) k s hs
      obtain ⟨b2, off2, rfl, hb2', g0, g1, g2⟩ := HR2.out.below hb (by omega) k s hs
      clear hs
      go_wp2_with fail
      go_quiet (fail)
      go_wp2_with fail
      go_roundw
      case rel => exact ⟨k+1, by omega, by go_num, belowDrewN hb _⟩
      case measure => simp [intOf]; omega
    · obtain rfl : k = len2 := by omega
      clear hlt
      go_wp2_with fail
      go_ret
      exact ⟨rfl, hb⟩
end Go.Proofs.YtblibmalommdkaaGreat.Sc

/-
  What the reference's May, Size, First and Join answer: the same as the program's, for every list (First: of a list that may be).
-/
namespace Go.Proofs.YtblibmalommdkaaGreat.Sc
open Go.RowKit
set_option maxRecDepth 100000 in
theorem refMay_any (A : Option Addr) (len cap : Nat) (w : World) (l : List S) (hlen : l.length = len) (hr : Rd w w.heap.size A l) (hm : len ≤ 9223372036854775807) :
    Calls Tryz.prog 70 #[.slice A len cap] w fun e w' => e = .returned (.bool (mayB l)) ∧ Below w.heap.size w w' := by
  go_enter Tryz.func70, Tryz.ntmps70
  go_wp2_with fail
  have H := Lib.hid hlen; clear hlen
  go_loopw [3, 4] (fun s i wr => ∃ k : Nat, k ≤ len ∧ i = .int .i64 k ∧ s = .int .i64 (tot (l.take k)) ∧ MayP (l.take k) ∧ Below w.heap.size w wr) (fun _ i _ => len - (intOf i).toNat)
  case atStart => exact ⟨0, Nat.zero_le _, rfl, rfl, ⟨fun s hs => by simp at hs, by simp [tot]⟩, Below.refl _ _⟩
  case round =>
    obtain ⟨k, hk, rfl, rfl, hmay, hb⟩ := hrel
    have p0 := tot_nonneg (l.take k) hmay.1
    have p1 := hmay.2
    by_cases hlt : k < len
    · obtain ⟨s, hs⟩ := get_some l k (by have := H.out; omega)
      have e1 := tot_take_succ l k s hs
      obtain ⟨b, off, rfl, hb', h0, h1, h2⟩ := hr.below hb (Nat.le_refl _) k s hs
      have E1 := Lib.hid e1
      have stp := Lib.hid (@may_stop l k s hs)
      have stq := Lib.hid (@may_step l k s hs hmay)
      clear hr e1 hs hb' hmay
      generalize tot (l.take k) = T at *
      go_wp2_with fail
      case roundEnd =>
        go_roundw
        case rel => exact ⟨k+1, by omega, by go_num, by rw [E1.out], (by exact stq.out (by unfold okS; omega) (by omega)), hb.alloc hb.size _⟩
        case measure => simp [intOf]; omega
      all_goals
        go_ret
        exact ⟨ret_bool (mayB_not (stp.out (by unfold okS; omega))).symm, hb.alloc hb.size _⟩
    · obtain rfl : k = len := by omega
      clear hlt
      have e2 : l.take k = l := by rw [List.take_of_length_le (Nat.le_of_eq H.out)]
      rw [e2] at hmay
      have e3 := mayB_of hmay
      clear hmay
      go_wp2_with fail
      go_ret
      exact ⟨ret_bool e3.symm, hb⟩
set_option maxRecDepth 100000 in
theorem refSize_any (A : Option Addr) (len cap : Nat) (w : World) (l : List S) (hlen : l.length = len) (hr : Rd w w.heap.size A l) (hL : Ok l) (ht : tot l ≤ 1099511627776) :
    Calls Tryz.prog 72 #[.slice A len cap] w fun e w' => e = .returned (.int .i64 (tot l)) ∧ Below w.heap.size w w' := by
  have hm := len_le_tot l hL
  rw [hlen] at hm
  go_enter Tryz.func72, Tryz.ntmps72
  go_wp2_with fail
  have H := Lib.hid hlen; clear hlen
  go_loopw [3, 4] (fun s i wr => ∃ k : Nat, k ≤ len ∧ i = .int .i64 k ∧ s = .int .i64 (tot (l.take k)) ∧ Below w.heap.size w wr) (fun _ i _ => len - (intOf i).toNat)
  case atStart => exact ⟨0, Nat.zero_le _, rfl, rfl, Below.refl _ _⟩
  case round =>
    obtain ⟨k, hk, rfl, rfl, hb⟩ := hrel
    have p1 := tot_take_le l hL k
    have p0 := tot_nonneg (l.take k) (hL.take k)
    by_cases hlt : k < len
    · obtain ⟨s, hs⟩ := get_some l k (by have := H.out; omega)
      have e1 := tot_take_succ l k s hs
      have q1 := tot_take_le l hL (k+1)
      have q2 := (hL.at_ hs).2.2.2.1
      obtain ⟨b, off, rfl, hb', h0, h1, h2⟩ := hr.below hb (Nat.le_refl _) k s hs
      have E1 := Lib.hid e1
      have q3 : tot (l.take k) + s.len ≤ 1099511627776 := by omega
      clear hr e1 hs hb'
      go_wp2_with fail
      go_roundw
      case rel => exact ⟨k+1, by omega, by go_num, by rw [E1.out], hb⟩
      case measure => simp [intOf]; omega
    · obtain rfl : k = len := by omega
      clear hlt
      have e2 : tot (l.take k) = tot l := by rw [List.take_of_length_le (Nat.le_of_eq H.out)]
      go_wp2_with fail
      go_ret
      exact ⟨ret_int e2, hb⟩

set_option maxRecDepth 100000 in
set_option maxHeartbeats 800000 in
theorem refJoin_any (A : Option Addr) (len cap : Nat) (w : World) (l : List S) (hlen : l.length = len) (hr : Rd w w.heap.size A l) (hL : Ok l) (ht : tot l ≤ 1099511627776) :
    Calls Tryz.prog 71 #[.slice A len cap] w fun e w' => (∃ A' n c, e = .returned (.slice A' n c) ∧ Own w' w.heap.size A' n c (joinL l)) ∧ Below w.heap.size w w' := by
  have hm := len_le_tot l hL
  rw [hlen] at hm
  obtain ⟨i0, hi, hz0, hz1, hz2⟩ := info_parts info31
  have HR := Lib.hid hr; have HL := Lib.hid hL
  clear hr hL
  go_enter Tryz.func71, Tryz.ntmps71
  go_wp2_with fail
  have H := Lib.hid hlen; clear hlen
  generalize hBB : w.heap.size = BB at *
  have HB := Lib.hid hBB; clear hBB
  go_loopw [3, 4] (fun v i wr => ∃ k A' n c, k ≤ len ∧ i = .int .i64 k ∧ v = .slice A' n c ∧ Own wr BB A' n c (joinL (l.take k)) ∧ Below BB w wr) (fun _ i _ => len - (intOf i).toNat)
  case atStart => exact ⟨0, _, _, _, Nat.zero_le _, rfl, rfl, Own.nil _ _, Below.refl _ _⟩
  case round =>
    obtain ⟨k, A', n, c, hk, rfl, rfl, hown, hb⟩ := hrel
    have HO := Lib.hid hown
    have HBel := Lib.hid hb
    by_cases hlt : k < len
    · obtain ⟨s, hs⟩ := get_some l k (by have := H.out; omega)
      obtain ⟨b2, off2, rfl, hb2, c0, c1, c2⟩ := HR.out.below hb (Nat.le_refl _) k s hs
      have hsz : BB ≤ wr.heap.size := by have := hb.size; have := HB.out; omega
      have hb2w : b2 < wr.heap.size := by omega
      have e1 := take_snoc l k s hs
      have sJ : joinL (l.take (k+1)) = glue (joinL (l.take k)) s := by rw [e1, joinL_snoc]
      have oks := HL.out.at_ hs
      have okJ := joinL_ok (HL.out.take k)
      have hlenJ := joinL_length (l.take k)
      have h4 : (l.take k).length ≤ k := List.length_take_le _ _
      have hJ := hown.1
      have hn : n ≤ k := by omega
      have tj := tot_take_succ l k s hs
      have tk := tot_take_le l HL.out (k+1)
      have SJ := Lib.hid sJ
      clear e1 hs hlenJ h4 sJ hown hb tj tk
      generalize joinL (l.take k) = J at *
      rcases snoc_cases J with rfl | ⟨L, t, rfl⟩
      · obtain rfl : n = 0 := by simpa using hJ.symm
        clear hJ
        go_wp2_with fail
        go_quiet (fail)
        go_wp2_with (at_builtin; refine wpList_append_own _ rfl _ _ 76 rfl BB 80 i0 _ 3 24 Tryz.underlying76 hi hz0 hz1 hz2 rfl (by decide) _ _ _ rfl ((HO.out.alloc _).drewN nq).2 ⟨wr.heap.size, 0, none⟩ 1 1 (cells [s]) rfl rfl (new_one _ s _ (by simp)) (cells_one_cell _) (by unfold maxLen; omega) (by omega) (by simp; omega) ?_)
        intro v' w1 hown' hgrow _
        obtain ⟨⟨A'', c'', hv, hown2⟩, hb3, hst, hz3, hcl⟩ := app_step HO.out HBel.out hsz ((belowDrewN (Below.refl _ _) nq).alloc (by simp) _) hown' hgrow
        rw [hv]
        clear hcl hgrow hown' hv
        go_wp2_with fail
        go_roundw
        case rel => exact ⟨k+1, A'', 0+1, c'', by omega, by go_num, rfl, by rw [SJ.out, glue_nil]; exact hown2, hb3⟩
        case measure => simp [intOf]; omega
      · obtain ⟨m, rfl⟩ : ∃ m, n = m + 1 := ⟨L.length, by simpa using hJ.symm⟩
        obtain ⟨g, rfl, hg1, hg2, t0, t1, t2, t3⟩ := HO.out.last
        clear hJ
        obtain ⟨u1, u2, u3, u4, u5⟩ := okJ t (by simp)
        obtain ⟨v1, v2, v3, v4, v5⟩ := oks
        by_cases ca : t.src = s.src
        · by_cases cb : t.at_ + t.len = s.at_
          · have f1 : (t.src == s.src) = true := by simpa using ca
            have f2 : (t.at_ + t.len == s.at_) = true := by simpa using cb
            have f3 : t.len + s.len ≤ 1099511627776 := by omega
            have W1 : IntKind.i64.wrap (t.at_ + t.len) = t.at_ + t.len := IntWalk.i64_in _ (by omega)
            have CA := Lib.hid ca
            have CB := Lib.hid cb
            clear ca cb
            go_wp2_with fail
            go_quiet (fail)
            clear W1
            go_wp2_with fail
            go_region
            go_wp2_with fail
            go_roundw
            case rel =>
              refine ⟨k+1, some ⟨g, 0, none⟩, m+1, c, by omega, by go_num, rfl, ?_, ?_⟩
              · rw [SJ.out, glue_yes _ _ _ ⟨CA.out, CB.out⟩]
                exact (HO.out.drewN _).setLast _
              · exact (belowDrewN HBel.out _).setCell hg1 _
            case measure => simp [intOf]; omega
          · have f1 : (t.src == s.src) = true := by simpa using ca
            have f2 : (t.at_ + t.len == s.at_) = false := by simpa using cb
            have W1 : IntKind.i64.wrap (t.at_ + t.len) = t.at_ + t.len := IntWalk.i64_in _ (by omega)
            have CA := Lib.hid ca
            have CB := Lib.hid cb
            clear ca cb
            go_wp2_with fail
            go_quiet (fail)
            clear W1
            go_wp2_with (at_builtin; refine wpList_append_own _ rfl _ _ 76 rfl BB 80 i0 _ 3 24 Tryz.underlying76 hi hz0 hz1 hz2 rfl (by decide) _ _ _ rfl ((HO.out.alloc _).drewN nq).2 ⟨wr.heap.size, 0, none⟩ 1 1 (cells [s]) rfl rfl (new_one _ s _ (by simp)) (cells_one_cell _) (by unfold maxLen; omega) (by omega) (by simp; omega) ?_)
            intro v' w1 hown' hgrow _
            obtain ⟨⟨A'', c'', hv, hown2⟩, hb3, hst, hz3, hcl⟩ := app_step HO.out HBel.out hsz ((belowDrewN (Below.refl _ _) nq).alloc (by simp) _) hown' hgrow
            rw [hv]
            clear hcl hgrow hown' hv
            go_wp2_with fail
            go_roundw
            case rel => exact ⟨k+1, A'', m+1+1, c'', by omega, by go_num, rfl, by rw [SJ.out, glue_no _ _ _ (fun h => CB.out h.2)]; exact hown2, hb3⟩
            case measure => simp [intOf]; omega
        · have f1 : (t.src == s.src) = false := by simpa using ca
          have CA := Lib.hid ca
          clear ca
          go_wp2_with fail
          go_quiet (fail)
          go_wp2_with (at_builtin; refine wpList_append_own _ rfl _ _ 76 rfl BB 80 i0 _ 3 24 Tryz.underlying76 hi hz0 hz1 hz2 rfl (by decide) _ _ _ rfl ((HO.out.alloc _).drewN nq).2 ⟨wr.heap.size, 0, none⟩ 1 1 (cells [s]) rfl rfl (new_one _ s _ (by simp)) (cells_one_cell _) (by unfold maxLen; omega) (by omega) (by simp; omega) ?_)
          intro v' w1 hown' hgrow _
          obtain ⟨⟨A'', c'', hv, hown2⟩, hb3, hst, hz3, hcl⟩ := app_step HO.out HBel.out hsz ((belowDrewN (Below.refl _ _) nq).alloc (by simp) _) hown' hgrow
          rw [hv]
          clear hcl hgrow hown' hv
          go_wp2_with fail
          go_roundw
          case rel => exact ⟨k+1, A'', m+1+1, c'', by omega, by go_num, rfl, by rw [SJ.out, glue_no _ _ _ (fun h => CA.out h.1)]; exact hown2, hb3⟩
          case measure => simp [intOf]; omega
    · obtain rfl : k = len := by omega
      clear hlt
      have e2 : l.take k = l := by rw [List.take_of_length_le (Nat.le_of_eq H.out)]
      rw [e2] at hown
      go_wp2_with fail
      go_ret
      obtain rfl := HB.out
      exact ⟨⟨_, _, _, rfl, hown⟩, HBel.out⟩
end Go.Proofs.YtblibmalommdkaaGreat.Sc

/-
  SE: texts of one kind, one behind the other.
-/
/-
  What the reference's First answers: the first bytes of a list that may be, and the others.
-/
namespace Go.Proofs.YtblibmalommdkaaGreat.Sc
open Go.RowKit
def fa (s : S) (n : Int) : List S := if 0 < min n s.len then [⟨s.src, s.at_, min n s.len⟩] else []
def fb (s : S) (n : Int) : List S := if min n s.len < s.len then [⟨s.src, s.at_ + min n s.len, s.len - min n s.len⟩] else []
def firstA : List S → Int → List S
  | [], _ => []
  | s :: l, n => fa s n ++ firstA l (n - min n s.len)
def firstB : List S → Int → List S
  | [], _ => []
  | s :: l, n => fb s n ++ firstB l (n - min n s.len)
/-- What is left of a number behind a list. -/
def rest : List S → Int → Int
  | [], n => n
  | s :: l, n => rest l (n - min n s.len)
theorem rest_snoc (l : List S) (s : S) (n : Int) : rest (l ++ [s]) n = rest l n - min (rest l n) s.len := by
  induction l generalizing n with
  | nil => rfl
  | cons a l ih => simp only [List.cons_append, rest, ih]
theorem firstA_snoc (l : List S) (s : S) (n : Int) : firstA (l ++ [s]) n = firstA l n ++ fa s (rest l n) := by
  induction l generalizing n with
  | nil => simp [firstA, rest]
  | cons a l ih => simp only [List.cons_append, firstA, rest, ih, List.append_assoc]
theorem firstB_snoc (l : List S) (s : S) (n : Int) : firstB (l ++ [s]) n = firstB l n ++ fb s (rest l n) := by
  induction l generalizing n with
  | nil => simp [firstB, rest]
  | cons a l ih => simp only [List.cons_append, firstB, rest, ih, List.append_assoc]
theorem rest_le (l : List S) (h : Ok l) (n : Int) (hn : 0 ≤ n) : 0 ≤ rest l n ∧ rest l n ≤ n := by
  induction l generalizing n with
  | nil => exact ⟨hn, Int.le_refl _⟩
  | cons a l ih =>
    have ha := h a (by simp)
    unfold okS at ha
    have := ih h.tail (n - min n a.len) (by omega)
    simp only [rest]
    omega
theorem fa_len (s : S) (n : Int) : (fa s n).length ≤ 1 := by unfold fa; split <;> simp
theorem fb_len (s : S) (n : Int) : (fb s n).length ≤ 1 := by unfold fb; split <;> simp
theorem firstA_len (l : List S) (n : Int) : (firstA l n).length ≤ l.length := by
  induction l generalizing n with
  | nil => simp [firstA]
  | cons a l ih => have := ih (n - min n a.len); have := fa_len a n; simp only [firstA, List.length_append, List.length_cons]; omega
theorem firstB_len (l : List S) (n : Int) : (firstB l n).length ≤ l.length := by
  induction l generalizing n with
  | nil => simp [firstB]
  | cons a l ih => have := ih (n - min n a.len); have := fb_len a n; simp only [firstB, List.length_append, List.length_cons]; omega

end Go.Proofs.YtblibmalommdkaaGreat.Sc

/-
  What the reference's Lent, Kept, Copy, Splice and Piece answer (Lent: of a list of at most 5 times 2^40 scraps less 2; Kept: of a list that was lent and is as it was).
-/
namespace Go.Proofs.YtblibmalommdkaaGreat.Sc
open Go.RowKit
def mk2 : List S := [⟨7, 7, 7⟩, ⟨8, 8, 8⟩]
theorem Rd.left {w : World} {B : Nat} {A : Option Addr} {l m : List S} (h : Rd w B A (l ++ m)) : Rd w B A l := by
  intro k s hs
  exact h k s (by rw [List.getElem?_append_left ((List.getElem?_eq_some_iff.1 hs).1)]; exact hs)
theorem new_two (w : World) (g : Nat) (hg : g = w.heap.size) : ∀ j u, (cells mk2)[j]? = some u → (w.alloc (.cells #[.int .i64 7, .int .i64 7, .int .i64 7, .int .i64 8, .int .i64 8, .int .i64 8] 80)).cell? ((⟨g, 0, none⟩ : Addr).add j) = some u := by
  subst hg
  intro j u hu
  have hadd : (⟨w.heap.size, 0, none⟩ : Addr).add j = ⟨w.heap.size, j, none⟩ := by unfold Addr.add; split <;> simp_all
  rw [hadd, cell_new]
  simpa [cells, mk2] using hu
set_option maxRecDepth 100000 in
theorem Copy_any (A : Option Addr) (len cap : Nat) (w : World) (l : List Int) (hlen : l.length = len) (hr : RdB w w.heap.size A l) (hm : len ≤ 140737488355328) :
    Calls Tryz.prog 19 #[.slice A len cap] w fun e w' => (∃ A' n c, e = .returned (.slice A' n c) ∧ OwnB w' w.heap.size A' n c l) ∧ Below w.heap.size w w' := by
  obtain ⟨i0, hi, hz0, hz1, hz2⟩ := info_parts info5
  have H := Lib.hid hlen; have HR := Lib.hid hr
  clear hlen hr
  go_enter Tryz.func19, Tryz.ntmps19
  go_wp2_with fail
  generalize hBB : w.heap.size = BB at *
  have HB := Lib.hid hBB; clear hBB
  go_loopw [3, 4] (fun v i wr => ∃ k A' c, k ≤ len ∧ i = .int .i64 k ∧ v = .slice A' k c ∧ OwnB wr BB A' k c (l.take k) ∧ Below BB w wr) (fun _ i _ => len - (intOf i).toNat)
  case atStart => exact ⟨0, _, _, Nat.zero_le _, rfl, rfl, OwnB.nil _ _, Below.refl _ _⟩
  case round =>
    obtain ⟨k, A', c, hk, rfl, rfl, hown, hb⟩ := hrel
    have HO := Lib.hid hown
    have HBel := Lib.hid hb
    by_cases hlt : k < len
    · obtain ⟨x, hx⟩ := get_some l k (by have := H.out; omega)
      obtain ⟨b2, off2, rfl, hb2, c0⟩ := HR.out.below hb (Nat.le_refl _) k x hx
      have hsz : BB ≤ wr.heap.size := by have := hb.size; have := HB.out; omega
      have HT := Lib.hid (take_snoc l k x hx)
      clear hx hown hb
      go_wp2_with (at_builtin; refine wpList_append_own _ rfl _ _ 22 rfl BB 5 i0 _ 1 1 Tryz.underlying22 hi hz0 hz1 hz2 rfl (by decide) _ _ _ rfl (HO.out.alloc _).2 ⟨wr.heap.size, 0, none⟩ 1 1 (bcells [x]) rfl rfl (newb_one _ x _ rfl) (bcells_one _) (by unfold maxLen; omega) (by omega) (by simp; omega) ?_)
      intro v' w1 hown' hgrow _
      obtain ⟨⟨A'', c'', hv, hown2⟩, hb3, hst, hz3, hcl⟩ := appB_step HO.out HBel.out hsz ((Below.refl _ _).alloc (Nat.le_refl _) _) (m := 1) (K := [x]) rfl hown' hgrow
      rw [hv]
      clear hcl hgrow hown' hv
      go_wp2_with fail
      go_roundw
      case rel => exact ⟨k+1, A'', c'', by omega, by go_num, rfl, by rw [HT.out]; exact hown2, hb3⟩
      case measure => simp [intOf]; omega
    · obtain rfl : k = len := by omega
      clear hlt
      have e2 : l.take k = l := by rw [List.take_of_length_le (Nat.le_of_eq H.out)]
      rw [e2] at hown
      go_wp2_with fail
      go_ret
      obtain rfl := HB.out
      exact ⟨⟨_, _, _, rfl, hown⟩, HBel.out⟩

/-! ### What First leaves, by its bytes -/
theorem fa_bts (s : S) (n : Int) (h : 1 ≤ s.len) : bts (fa s n) = (sb s).take n.toNat := by
  unfold fa
  split
  · rw [bts_one]
    have h1 := sb_cut s 0 (min n s.len) (by omega) (by omega) (by omega)
    simp only [Int.add_zero, Int.sub_zero, Int.toNat_zero, List.drop_zero] at h1
    rw [h1]
    by_cases hn : n ≤ s.len
    · rw [Int.min_eq_left hn]
    · rw [List.take_of_length_le (by rw [sb_length]; omega), List.take_of_length_le (by rw [sb_length]; omega)]
  · have e : n.toNat = 0 := by omega
    rw [e]; rfl
theorem fb_bts (s : S) (n : Int) (h : 1 ≤ s.len) (hn : 0 ≤ n) : bts (fb s n) = (sb s).drop n.toNat := by
  unfold fb
  split
  · rename_i hlt
    rw [bts_one]
    have h1 := sb_cut s (min n s.len) s.len (by omega) (by omega) (by omega)
    rw [h1, List.take_of_length_le (by rw [sb_length]; omega)]
    have e : (min n s.len).toNat = n.toNat := by omega
    rw [e]
  · rw [List.drop_eq_nil_of_le (by rw [sb_length]; omega)]; rfl
theorem firstA_bts {l : List S} (h : Ok l) (n : Int) (hn : 0 ≤ n) : bts (firstA l n) = (bts l).take n.toNat := by
  induction l generalizing n with
  | nil => simp [firstA, bts]
  | cons a l ih =>
    have ha := h a (by simp)
    unfold okS at ha
    rw [firstA, bts_append, fa_bts a n (by omega), ih h.tail _ (by omega), bts_cons, List.take_append, sb_length]
    congr 2
    omega
theorem firstB_bts {l : List S} (h : Ok l) (n : Int) (hn : 0 ≤ n) : bts (firstB l n) = (bts l).drop n.toNat := by
  induction l generalizing n with
  | nil => simp [firstB, bts]
  | cons a l ih =>
    have ha := h a (by simp)
    unfold okS at ha
    rw [firstB, bts_append, fb_bts a n (by omega) hn, ih h.tail _ (by omega), bts_cons, List.drop_append, sb_length]
    congr 2
    omega
theorem firstA_ok {l : List S} (h : Ok l) (n : Int) : Ok (firstA l n) := by
  induction l generalizing n with
  | nil => exact ok_nil
  | cons a l ih =>
    refine Ok.append ?_ (ih h.tail _)
    have ha := h a (by simp)
    unfold fa
    split
    · intro t ht; simp at ht; subst ht; unfold okS at *; simp only; omega
    · exact ok_nil
theorem firstB_ok {l : List S} (h : Ok l) (n : Int) (hn : 0 ≤ n) : Ok (firstB l n) := by
  induction l generalizing n with
  | nil => exact ok_nil
  | cons a l ih =>
    have ha := h a (by simp)
    refine Ok.append ?_ (ih h.tail _ (by unfold okS at ha; omega))
    unfold fb
    split
    · intro t ht; simp at ht; subst ht; unfold okS at *; simp only; omega
    · exact ok_nil
theorem firstA_tot {l : List S} (h : Ok l) (n : Int) (hn : 0 ≤ n) (ht : n ≤ tot l) : tot (firstA l n) = n := by
  rw [← bts_length (firstA_ok h n), firstA_bts h n hn, List.length_take]
  have := bts_length h
  omega
theorem firstB_tot {l : List S} (h : Ok l) (n : Int) (hn : 0 ≤ n) (ht : n ≤ tot l) : tot (firstB l n) = tot l - n := by
  rw [← bts_length (firstB_ok h n hn), firstB_bts h n hn, List.length_drop]
  have := bts_length h
  omega
/-- The reference's splice and piece are the program's, by their bytes. -/
theorem ref_splice {l put : List S} (h : MayP l) (hp : MayP put) (at_ n : Int) (a0 : 0 ≤ at_) (n0 : 0 ≤ n) (_a1 : at_ ≤ tot l) (_n1 : n ≤ tot l - at_) :
    joinL (firstA l at_ ++ put ++ firstB (firstB l at_) n) = joinL (partL l 0 at_ ++ (put ++ partL l (at_ + n) (tot l))) := by
  have ob := firstB_ok h.1 at_ a0
  have hb := bts_length h.1
  apply joinL_congr (((firstA_ok h.1 _).append hp.1).append (firstB_ok ob n n0)) ((partL_ok h.1 _ _).append (hp.1.append (partL_ok h.1 _ _)))
  rw [bts_append, bts_append, bts_append, bts_append, firstA_bts h.1 _ a0, firstB_bts ob _ n0, firstB_bts h.1 _ a0, bts_partL h.1, bts_partL h.1]
  have e : (bts l).take (tot l).toNat = bts l := List.take_of_length_le (by omega)
  have e2 : (at_ + n).toNat = at_.toNat + n.toNat := by omega
  rw [e, e2, List.drop_drop]
  simp
theorem ref_piece {l : List S} (h : MayP l) (at_ n : Int) (a0 : 0 ≤ at_) (n0 : 0 ≤ n) :
    joinL (firstA (firstB l at_) n) = joinL (partL l at_ (at_ + n)) := by
  have ob := firstB_ok h.1 at_ a0
  apply joinL_congr (firstA_ok ob n) (partL_ok h.1 _ _)
  rw [firstA_bts ob _ n0, firstB_bts h.1 _ a0, bts_partL h.1]
  have e2 : (at_ + n).toNat = at_.toNat + n.toNat := by omega
  rw [e2, List.drop_take]
  have e4 : at_.toNat + n.toNat - at_.toNat = n.toNat := by omega
  rw [e4]
theorem ref_cut {l : List S} (h : MayP l) (at_ : Int) (a0 : 0 ≤ at_) (_a1 : at_ ≤ tot l) :
    joinL (firstA l at_) = joinL (partL l 0 at_) ∧ joinL (firstB l at_) = joinL (partL l at_ (tot l)) := by
  have hb := bts_length h.1
  constructor
  · apply joinL_congr (firstA_ok h.1 at_) (partL_ok h.1 _ _)
    rw [firstA_bts h.1 _ a0, bts_partL h.1]; simp
  · apply joinL_congr (firstB_ok h.1 at_ a0) (partL_ok h.1 _ _)
    rw [firstB_bts h.1 _ a0, bts_partL h.1]
    have e : (bts l).take (tot l).toNat = bts l := List.take_of_length_le (by omega)
    rw [e]
end Go.Proofs.YtblibmalommdkaaGreat.Sc

/-
  What the reference's Splice, Piece and Text answer: what the program's do, for every list and all numbers.
-/
namespace Go.Proofs.YtblibmalommdkaaGreat.Sc
open Go.RowKit
end Go.Proofs.YtblibmalommdkaaGreat.Sc

/-
  'append([]byte{}, b...)' and 'append(x, make([]byte, m)...)' on rows of the call's own. No program in sight but its type numbers.
-/
namespace Go.Proofs.YtblibmalommdkaaGreat.Sc
open Go.RowKit
theorem lit_own {w : World} {base G : Nat} (hG : w.heap[G]? = some (.cells #[] 5 (0, 0))) (hb : base ≤ G) : w.ownsRow base 5 1 (.slice (some ⟨G, 0, none⟩) 0 0) 0 [] :=
  ⟨rfl, .inr ⟨G, 0, #[], rfl, hb, hG, Nat.le_refl _, by unfold maxLen; omega, rfl, rfl⟩⟩
theorem run_append_lit (w : World) (ty : TypeId) (base G : Nat) (hG : w.heap[G]? = some (.cells #[] 5 (0, 0))) (hb : base ≤ G) (A : Option Addr) (m c : Nat) (b : List Int) (hlen : b.length = m) (hr : RdB w w.heap.size A b) (hno : A = none → m = 0 ∧ c = 0) (hm : m ≤ 140737488355328) :
    ∃ g cap w', (Builtin.append_ #[22, 22] ty #[.slice (some ⟨G, 0, none⟩) 0 0, .slice A m c]).run Tryz.prog w = .ok (.slice (some ⟨g, 0, none⟩) m cap) w' ∧ OwnB w' base (some ⟨g, 0, none⟩) m cap b ∧ w.grownBy w' (some G) ∧ (g = G ∨ g = w.heap.size) ∧ g < w'.heap.size := by
  obtain ⟨i0, hi, hz0, hz1, hz2⟩ := info_parts info5
  have hown := lit_own hG hb
  have hlt := (Array.getElem?_eq_some_iff.1 hG).1
  cases A with
  | none =>
    obtain ⟨rfl, rfl⟩ := hno rfl
    have hn : b = [] := List.eq_nil_of_length_eq_zero hlen
    subst hn
    have hrun := run_append_owned_none (P := Tryz.prog) (w := w) base 22 ty 5 i0 1 Tryz.underlying22 hi _ 0 [] hown
    exact ⟨G, 0, w, hrun, ⟨rfl, hown⟩, World.grownBy.refl _ _, .inl rfl, hlt⟩
  | some a =>
    obtain ⟨v', w', hrun, h2, h3, h4, h5⟩ := run_append_own_at (P := Tryz.prog) w base 22 ty 5 i0 _ 1 1 Tryz.underlying22 hi hz0 hz1 hz2 rfl (by decide) (.slice (some ⟨G, 0, none⟩) 0 0) 0 [] hown a m c (bcells b) (by simp [bcells, hlen]) (hr.cells' a rfl) (bcells_one b) (by unfold maxLen; omega) (by omega) (by omega)
    rw [List.nil_append, Nat.zero_add] at h2
    have hne : ¬ v' = .slice none 0 0 := fun e => by have := (h4.1 e).1; cases this
    rcases h2.2 with ⟨hv, _⟩ | ⟨g, cap, cur, hv, hbg, hg, _⟩
    · exact absurd hv hne
    · subst hv
      refine ⟨g, cap, w', hrun, ⟨hlen, h2⟩, h3, ?_, (Array.getElem?_eq_some_iff.1 hg).1⟩
      rcases h5 with h5 | h5
      · left; simpa [Value.ownBlock] using h5
      · right; simpa [Value.ownBlock] using h5
/-- An append whose run is told by a hypothesis: 'attribute [local go_sem ↓] append_told' keeps the walk from laying it open. -/
def appTold (ts : Array TypeId) (ty : TypeId) (vs : Array Value) : Sem Value := Builtin.append_ ts ty vs
theorem append_told (ts : Array TypeId) (ty : TypeId) (vs : Array Value) : Builtin.append_ ts ty vs = appTold ts ty vs := rfl
section
variable {w : World} {o : Oper} {a : Act} {K : Act → World → Prop} {Q : Exit → Act → World → Prop}
theorem wp_append_lit (s x : Operand) (ho : o.op = .call { callee := .builtin .append, args := #[s, x], argTypes := #[22, 22] }) (base G : Nat) (hs : a.eval s = .slice (some ⟨G, 0, none⟩) 0 0) (hG : w.heap[G]? = some (.cells #[] 5 (0, 0))) (hb : base ≤ G)
    (A : Option Addr) (m c : Nat) (b : List Int) (hx : a.eval x = .slice A m c) (hlen : b.length = m) (hr : RdB w w.heap.size A b) (hno : A = none → m = 0 ∧ c = 0) (hm : m ≤ 140737488355328)
    (h : ∀ g cap w', OwnB w' base (some ⟨g, 0, none⟩) m cap b → w.grownBy w' (some G) → (g = G ∨ g = w.heap.size) → g < w'.heap.size → K (a.put o.dst (.slice (some ⟨g, 0, none⟩) m cap)) w') : o.wp Tryz.prog a w K Q := by
  obtain ⟨g, cap, w', hrun, h2, h3, h4, h5⟩ := run_append_lit w o.type base G hG hb A m c b hlen hr hno hm
  unfold Oper.wp execOp
  simp only [ho, resolve, invoke, builtin, Sem.run_bind, Sem.run_pure, Result.andThen_ok, List.map_toArray, List.map_cons, List.map_nil, hs, hx, hrun]
  exact h g cap w' h2 h3 h4 h5
theorem wpList_append_lit {ops : Array Oper} {rest : List Oper} (hgd : o.guard = none) (s x : Operand) (ho : o.op = .call { callee := .builtin .append, args := #[s, x], argTypes := #[22, 22] }) (base G : Nat) (hs : a.eval s = .slice (some ⟨G, 0, none⟩) 0 0) (hG : w.heap[G]? = some (.cells #[] 5 (0, 0))) (hb : base ≤ G)
    (A : Option Addr) (m c : Nat) (b : List Int) (hx : a.eval x = .slice A m c) (hlen : b.length = m) (hr : RdB w w.heap.size A b) (hno : A = none → m = 0 ∧ c = 0) (hm : m ≤ 140737488355328)
    (h : ∀ g cap w', OwnB w' base (some ⟨g, 0, none⟩) m cap b → w.grownBy w' (some G) → (g = G ∨ g = w.heap.size) → g < w'.heap.size → wpList Tryz.prog ops Q rest (a.put o.dst (.slice (some ⟨g, 0, none⟩) m cap)) w') : wpList Tryz.prog ops Q (o :: rest) a w :=
  wpList_plain hgd fun _ hK => wp_append_lit s x ho base G hs hG hb A m c b hx hlen hr hno hm fun g cap w' h2 h3 h4 h5 => hK _ _ (h g cap w' h2 h3 h4 h5)
theorem step_append_lit {ops : Array Oper} {E : Prop} (hgd : o.guard = none) (s x : Operand) (ho : o.op = .call { callee := .builtin .append, args := #[s, x], argTypes := #[22, 22] }) (base G : Nat) (hs : a.eval s = .slice (some ⟨G, 0, none⟩) 0 0) (hG : w.heap[G]? = some (.cells #[] 5 (0, 0))) (hb : base ≤ G)
    (A : Option Addr) (m c : Nat) (b : List Int) (hx : a.eval x = .slice A m c) (hlen : b.length = m) (hr : RdB w w.heap.size A b) (hno : A = none → m = 0 ∧ c = 0) (hm : m ≤ 140737488355328)
    (h : ∀ g cap w', OwnB w' base (some ⟨g, 0, none⟩) m cap b → w.grownBy w' (some G) → (g = G ∨ g = w.heap.size) → g < w'.heap.size → K (a.put o.dst (.slice (some ⟨g, 0, none⟩) m cap)) w') :
    if Region.wanted o (yielded ops a.tmps) = true then Oper.wp Tryz.prog o a w K Q else E := by
  have hw : Region.wanted o (yielded ops a.tmps) = true := by simp [Region.wanted, hgd]
  rw [if_pos hw]
  exact wp_append_lit s x ho base G hs hG hb A m c b hx hlen hr hno hm h
/-- The same, the world told from the one in which the bytes read. -/
theorem step_append_litB {ops : Array Oper} {E : Prop} (hgd : o.guard = none) (s x : Operand) (ho : o.op = .call { callee := .builtin .append, args := #[s, x], argTypes := #[22, 22] }) (w0 : World) (hbW : Below w0.heap.size w0 w) (G : Nat) (hs : a.eval s = .slice (some ⟨G, 0, none⟩) 0 0) (hG : w.heap[G]? = some (.cells #[] 5 (0, 0))) (hb : w0.heap.size ≤ G)
    (A : Option Addr) (m c : Nat) (b : List Int) (hx : a.eval x = .slice A m c) (hlen : b.length = m) (hr : RdB w0 w0.heap.size A b) (hno : A = none → m = 0 ∧ c = 0) (hm : m ≤ 140737488355328)
    (h : ∀ g cap w', OwnB w' w0.heap.size (some ⟨g, 0, none⟩) m cap b → w.grownBy w' (some G) → (g = G ∨ g = w.heap.size) → g < w'.heap.size → Below w0.heap.size w0 w' → K (a.put o.dst (.slice (some ⟨g, 0, none⟩) m cap)) w') :
    if Region.wanted o (yielded ops a.tmps) = true then Oper.wp Tryz.prog o a w K Q else E :=
  step_append_lit hgd s x ho w0.heap.size G hs hG hb A m c b hx hlen (hr.up hbW) hno hm fun g cap w' h2 h3 h4 h5 => h g cap w' h2 h3 h4 h5 (hbW.grown h3 hbW.size (fun k hk => by injection hk with hk; omega))
theorem lit_one (w : World) : (w.alloc (.cells #[] 5)).heap[w.heap.size]? = some (.cells #[] 5 (0, 0)) := heap_alloc_new w _
theorem lit_two (w : World) : ((w.alloc (.cells #[] 5)).alloc (.cells #[] 5)).heap[w.heap.size]? = some (.cells #[] 5 (0, 0)) := by
  rw [heap_alloc_old _ _ (by simp)]; exact heap_alloc_new w _
theorem lit_two' (w : World) : ((w.alloc (.cells #[] 5)).alloc (.cells #[] 5)).heap[w.heap.size + 1]? = some (.cells #[] 5 (0, 0)) := by
  have := heap_alloc_new (w.alloc (.cells #[] 5)) (.cells #[] 5)
  simpa using this
theorem lit_below (w : World) : Below w.heap.size w (w.alloc (.cells #[] 5)).drew := belowDrewN ((Below.refl _ _).alloc (Nat.le_refl _) _) 1
theorem lit_below2 (w : World) : Below w.heap.size w ((w.alloc (.cells #[] 5)).alloc (.cells #[] 5)).drew := belowDrewN (((Below.refl _ _).alloc (Nat.le_refl _) _).alloc (by simp) _) 1
end
theorem zeroCells_one (z : Value) (n : Nat) : (Builtin.zeroCells #[z] n).toList = List.replicate n z := by
  simp only [Builtin.zeroCells, List.size_toArray, List.length_cons, List.length_nil, Nat.zero_add, Nat.mul_one, Nat.mod_one]
  simp [List.map_const']
theorem zeros_grown (w : World) (base : Nat) (e : TypeId) (need old : Nat) (xs news : List Value) (z : Value) (hn : (xs ++ news).length = need) (hbase : base ≤ w.heap.size) (h63 : need ≤ maxLen) (row : Option Nat) :
    (w.drew.alloc (.cells (xs.toArray ++ news.toArray ++ Builtin.zeroCells #[z] (grownCap w need old e - need)) e)).ownsRow base e 1 (.slice (some ⟨w.heap.size, 0, none⟩) need (grownCap w need old e)) need (xs ++ news) ∧
      w.grownBy (w.drew.alloc (.cells (xs.toArray ++ news.toArray ++ Builtin.zeroCells #[z] (grownCap w need old e - need)) e)) row := by
  have hge := grownCap_ge w need old e
  have hcm : grownCap w need old e ≤ maxLen := grownCap_le_maxLen w need old e h63
  have hlen := hn
  rw [List.length_append] at hlen
  refine ⟨⟨by omega, .inr ⟨w.heap.size, _, _, rfl, hbase, heap_alloc_new w.drew _, hge, hcm, ?_, ?_⟩⟩, ⟨rfl, rfl, rfl, by simp, fun k hk _ => heap_alloc_old w.drew _ hk⟩⟩
  · simp only [Array.size_append, List.size_toArray, size_zeroCells, List.length_cons, List.length_nil]
    omega
  · simp only [Array.toList_append, List.append_assoc]
    rw [← List.append_assoc, Nat.mul_one, ← hn]
    exact List.take_left
theorem run_append_zeros {P : Program} (w : World) (base : Nat) (t ti ty e : TypeId) (i : TypeInfo) (z : Value) (q : IntKind) (ht : P.underlying t = some (.slice e)) (hti : P.underlying ti = some (.int q)) (hi : P.info? e = some i) (hz : i.zero = some z)
    (hsize : i.size = 1) (hby : i.bytes = 1) (hzs : z.cells = #[z]) (hone : z.oneCell' = true) (g n cap : Nat) (xs : List Value) (hown : w.ownsRow base e 1 (.slice (some ⟨g, 0, none⟩) n cap) n xs) (m : Nat) (hm : 0 < m) (hm2 : m ≤ 1048576) (hn : n ≤ 1048576) (hbase : base ≤ w.heap.size) :
    ∃ v' w', (Builtin.append_ #[t, ti] ty #[.slice (some ⟨g, 0, none⟩) n cap, .int .i64 (m : Int)]).run P w = .ok v' w' ∧ w'.ownsRow base e 1 v' (n + m) (xs ++ List.replicate m z) ∧ w.grownBy w' (some g) ∧ (v'.ownBlock = some g ∨ v'.ownBlock = some w.heap.size) := by
  rcases hown.2 with ⟨hv, _⟩ | ⟨g', cap', cur, hv, hbg, hg, hnc, hcm, hcs, htake⟩
  · cases hv
  · injection hv with ha _ hc
    injection ha with ha
    injection ha with hgg _ _
    subst hgg; subst hc
    have hl : (Builtin.zeroCells #[z] m).toList = List.replicate m z := zeroCells_one z m
    have hla : Builtin.zeroCells #[z] m = (List.replicate m z).toArray := by rw [← hl]
    have hwr : IntKind.i64.wrap (m : Int) = m := by rw [IntKind.wrap_i64]; omega
    have h48 : ¬ (281474976710656 < (m : Int)) := by omega
    have hx : xs.length = n := by simpa using hown.1
    have hlen : (xs ++ List.replicate m z).length = n + m := by rw [List.length_append, hx]; simp
    have hm0 : ¬ (m = 0) := by omega
    have hneg : ¬ ((m : Int) < 0) := by omega
    have hasI : ∀ W, Sem.run P (asInt (Value.int IntKind.i64 (m : Int))) W = .ok (m : Int) W := fun W => rfl
    by_cases hroom : n + m ≤ cap
    · have hfit : n + m ≤ cur.size := by omega
      have hst := run_storeCells_at P g n e (List.replicate m z) 0 cur w hg (by simpa using hfit) (fun u hu => by rw [List.eq_of_mem_replicate hu]; exact hone)
      simp only [Nat.add_zero] at hst
      refine ⟨.slice (some ⟨g, 0, none⟩) (n + m) cap, w.setRow g (cur.toList.take n ++ List.replicate m z ++ cur.toList.drop (n + m)).toArray, ?_, ⟨by simpa using hlen, .inr ⟨g, cap, _, rfl, hbg, setRow_heap w g cur _ e _ hg, hroom, hcm, ?_, ?_⟩⟩, ⟨rfl, rfl, rfl, by simp, fun k _ hk => setRow_other w g k _ (fun e => hk (by simp [e]))⟩, .inl rfl⟩
      · simp [Builtin.append_, run_underlying ht, run_underlying hti, sizeOf, typeInfo, hi, hsize, hby, hz, zeroValue, hzs, hl, hwr, hroom, hm0, Addr.add_lit, hst, hasI, h48, hneg]
      · simp; omega
      · simp only [Nat.mul_one]
        rw [show cur.toList.take n = xs by simpa using htake]
        rw [List.toList_toArray, ← hlen]
        exact List.take_left
    · have holds : ∀ j u, xs[j]? = some u → w.cell? ((⟨g, 0, none⟩ : Addr).add j) = some u := hown.cells (g := g) rfl
      have hfo := run_firstCells_some (P := P) w.drew 1 n ⟨g, 0, none⟩ n cap xs (by simpa using hx) (by simpa using holds)
      have hgr := zeros_grown w base e (n + m) cap xs (List.replicate m z) z hlen hbase (by unfold maxLen; omega) (some g)
      have h63' : ¬ (9223372036854775807 < (n : Int) + (m : Int)) := by omega
      have h48' : ¬ (281474976710656 < Builtin.nextslicecap (n + m) cap) := by
        have := growslice_fits (need := n + m) (old := cap) (bytes := 1) (by omega) (by omega)
        omega
      refine ⟨_, _, ?_, hgr.1, hgr.2, .inr rfl⟩
      simp [Builtin.append_, run_underlying ht, run_underlying hti, sizeOf, typeInfo, hi, hsize, hby, hz, zeroValue, hzs, hwr, hroom, hm0, hasI, h48, hneg, h48', h63', Question.forced, hfo, newRow, grownCap, hla]
theorem run_append_zeros0 {P : Program} (w : World) (t ti ty e : TypeId) (i : TypeInfo) (z : Value) (q : IntKind) (ht : P.underlying t = some (.slice e)) (hti : P.underlying ti = some (.int q)) (hi : P.info? e = some i) (hz : i.zero = some z)
    (hsize : i.size = 1) (hby : i.bytes = 1) (g n cap : Nat) (hnc : n ≤ cap) : (Builtin.append_ #[t, ti] ty #[.slice (some ⟨g, 0, none⟩) n cap, .int .i64 0]).run P w = .ok (.slice (some ⟨g, 0, none⟩) n cap) w := by
  have hwr : IntKind.i64.wrap 0 = 0 := by rw [IntKind.wrap_i64]; omega
  have hasI : ∀ W, Sem.run P (asInt (Value.int IntKind.i64 0)) W = .ok (0 : Int) W := fun W => rfl
  simp [Builtin.append_, run_underlying ht, run_underlying hti, sizeOf, typeInfo, hi, hsize, hby, hz, zeroValue, hwr, hasI, hnc]
  have : (Sem.run P (storeCells ((⟨g, 0, none⟩ : Addr).add n) []) w) = .ok () w := rfl
  simp [this, Result.andThen_ok]
/-- The bytes of a file, behind them zeros. -/
theorem run_append_zerosB (w : World) (ty : TypeId) (base g n cap : Nat) (xs : List Int) (hown : OwnB w base (some ⟨g, 0, none⟩) n cap xs) (m : Nat) (hm2 : m ≤ 1048576) (hn : n ≤ 1048576) (hbase : base ≤ w.heap.size) :
    ∃ g' cap' w', (Builtin.append_ #[22, 3] ty #[.slice (some ⟨g, 0, none⟩) n cap, .int .i64 (m : Int)]).run Tryz.prog w = .ok (.slice (some ⟨g', 0, none⟩) (n + m) cap') w' ∧ OwnB w' base (some ⟨g', 0, none⟩) (n + m) cap' (xs ++ List.replicate m 0) ∧ w.grownBy w' (some g) ∧ (g' = g ∨ g' = w.heap.size) ∧ g' < w'.heap.size := by
  obtain ⟨i0, hi, hz0, hz1, hz2⟩ := info_parts info5
  have hlt : g < w.heap.size := by
    rcases hown.2.2 with ⟨hv, _⟩ | ⟨g2, _, _, hv, _, hg, _⟩
    · cases hv
    · injection hv with ha _ _
      injection ha with ha
      injection ha with ha _ _
      subst ha
      exact (Array.getElem?_eq_some_iff.1 hg).1
  by_cases h0 : m = 0
  · subst h0
    have hnc := hown.cap.1
    refine ⟨g, cap, w, run_append_zeros0 w 22 3 ty 5 i0 _ .i64 Tryz.underlying22 Tryz.underlying3 hi hz0 hz1 hz2 g n cap hnc, by simpa using hown, World.grownBy.refl _ _, .inl rfl, hlt⟩
  · obtain ⟨v', w', hrun, h2, h3, h4⟩ := run_append_zeros (P := Tryz.prog) w base 22 3 ty 5 i0 _ .i64 Tryz.underlying22 Tryz.underlying3 hi hz0 hz1 hz2 rfl (by decide) g n cap (bcells xs) hown.2 m (by omega) hm2 hn hbase
    have hbc : bcells xs ++ List.replicate m (Value.int .u8 0) = bcells (xs ++ List.replicate m 0) := by simp [bcells]
    rw [hbc] at h2
    have hlen : (xs ++ List.replicate m (0 : Int)).length = n + m := by simp [hown.1]
    rcases h2.2 with ⟨hv, hn0⟩ | ⟨g', cap', cur, hv, hbg, hg, _⟩
    · rw [hv] at h4
      simp [Value.ownBlock] at h4
    · subst hv
      refine ⟨g', cap', w', hrun, ⟨hlen, h2⟩, h3, ?_, (Array.getElem?_eq_some_iff.1 hg).1⟩
      rcases h4 with h5 | h5
      · left; simpa [Value.ownBlock] using h5
      · right; simpa [Value.ownBlock] using h5
section
variable {w : World} {o : Oper} {a : Act} {K : Act → World → Prop} {Q : Exit → Act → World → Prop}
theorem step_append_zerosB {ops : Array Oper} {E : Prop} (hgd : o.guard = none) (s x : Operand) (ho : o.op = .call { callee := .builtin .append, args := #[s, x], argTypes := #[22, 3] }) (base g n cap : Nat) (hs : a.eval s = .slice (some ⟨g, 0, none⟩) n cap) (xs : List Int) (hown : OwnB w base (some ⟨g, 0, none⟩) n cap xs)
    (m : Nat) (hx : a.eval x = .int .i64 (m : Int)) (hm2 : m ≤ 1048576) (hn : n ≤ 1048576) (hbase : base ≤ w.heap.size)
    (h : ∀ g' cap' w', OwnB w' base (some ⟨g', 0, none⟩) (n + m) cap' (xs ++ List.replicate m 0) → w.grownBy w' (some g) → (g' = g ∨ g' = w.heap.size) → g' < w'.heap.size → K (a.put o.dst (.slice (some ⟨g', 0, none⟩) (n + m) cap')) w') :
    if Region.wanted o (yielded ops a.tmps) = true then Oper.wp Tryz.prog o a w K Q else E := by
  have hw : Region.wanted o (yielded ops a.tmps) = true := by simp [Region.wanted, hgd]
  rw [if_pos hw]
  obtain ⟨g', cap', w', hrun, h2, h3, h4, h5⟩ := run_append_zerosB w o.type base g n cap xs hown m hm2 hn hbase
  unfold Oper.wp execOp
  simp only [ho, resolve, invoke, builtin, Sem.run_bind, Sem.run_pure, Result.andThen_ok, List.map_toArray, List.map_cons, List.map_nil, hs, hx, hrun]
  exact h g' cap' w' h2 h3 h4 h5
end
end Go.Proofs.YtblibmalommdkaaGreat.Sc
