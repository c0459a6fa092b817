/-
  What small, Pick, octavoref01.Same and list answer in the statements of this chapter (list: at most thirty scraps of the two files, all of whose bytes are there).
-/
import Derived.Test.YtdpjblepcpjomaaSRefd
import Derived.Test.YtdpjblepcpjomaaFRows
namespace Go.Proofs.Ytdpjblepcpjomaa.Rb
open Go.RowKit

noncomputable def smallB (l : List S) : Bool := decide (l.length ≤ 20) && (!Sc.mayB l || decide (Sc.tot l ≤ 400))
theorem small_parts {l : List S} (h : smallB l = true) : l.length ≤ 20 ∧ (Sc.MayP l → Sc.tot l ≤ 400) := by
  unfold smallB at h
  rw [Bool.and_eq_true] at h
  refine ⟨of_decide_eq_true h.1, fun hM => ?_⟩
  have h2 := h.2
  rw [Sc.mayB_of hM] at h2
  simpa using h2
theorem small_any (A : Option Addr) (len cap : Nat) (w : World) (l : List S) (hlen : l.length = len) (hr : Sc.Rd w w.heap.size A l) (hm : len ≤ 9223372036854775807) :
    Calls Try.prog 9 #[.slice A len cap] w fun e w' => e = .returned (.bool (smallB l)) ∧ Below w.heap.size w w' := by
  have H := Lib.hid hlen; have HR := Lib.hid hr
  by_cases h : len ≤ 20
  · by_cases hM : Sc.MayP l
    · have e1 := Sc.mayB_of hM
      have HS := Lib.hid (show smallB l = decide (Sc.tot l ≤ 400) by unfold smallB; rw [e1, decide_eq_true (show l.length ≤ 20 by omega)]; simp)
      have HM := Lib.hid hM
      clear hlen hr hM
      go_enter Try.func9, Try.ntmps9
      go_wp2_with fail
      refine (Sc.refMay_any A len cap _ l H.out HR.out hm).mono ?_
      rintro e w1 ⟨rfl, hb1⟩
      have HB1 := Lib.hid hb1
      have HR1 := Lib.hid (HR.out.up hb1)
      clear hb1
      go_wp2_with fail
      refine (Sc.refSize_any A len cap _ l H.out HR1.out HM.out.1 HM.out.2).mono ?_
      rintro e w2 ⟨rfl, hb2⟩
      have HB2 := Lib.hid (below_up HB1.out hb2)
      clear hb2
      go_wp2_with fail
      go_ret
      exact ⟨ret_bool (by rw [HS.out]), HB2.out⟩
    · have e1 : Sc.mayB l = false := Sc.mayB_not hM
      have HS := Lib.hid (show smallB l = true by unfold smallB; rw [e1, decide_eq_true (show l.length ≤ 20 by omega)]; simp)
      clear hlen hr hM
      go_enter Try.func9, Try.ntmps9
      go_wp2_with fail
      refine (Sc.refMay_any A len cap _ l H.out HR.out hm).mono ?_
      rintro e w1 ⟨rfl, hb1⟩
      have HB1 := Lib.hid hb1
      clear hb1
      go_wp2_with fail
      go_ret
      exact ⟨ret_bool HS.out.symm, HB1.out⟩
  · have HS := Lib.hid (show smallB l = false by unfold smallB; rw [decide_eq_false (show ¬ l.length ≤ 20 by omega)]; rfl)
    have h' : decide ((len : Int) ≤ 20) = false := decide_eq_false (by omega)
    clear hlen hr
    go_enter Try.func9, Try.ntmps9
    go_wp2_with fail
    go_ret
    exact ⟨ret_bool HS.out.symm, Below.refl _ _⟩
theorem pick_tmod (x n : Int) (h : 1 ≤ n) : (x.tmod n < 0 → x.tmod n + n = x % n) ∧ (0 ≤ x.tmod n → x.tmod n = x % n) := by
  have h1 := Int.mul_tdiv_add_tmod x n
  have h2 : x.tmod n < n := Int.tmod_lt_of_pos x (by omega)
  have h3 : -n < x.tmod n := by
    by_cases hx : 0 ≤ x
    · have := Int.tmod_nonneg n hx; omega
    · have h4 := Int.tmod_lt_of_pos (-x) (show 0 < n by omega)
      rw [Int.neg_tmod] at h4
      omega
  generalize hr : x.tmod n = r at *
  generalize x.tdiv n = q at *
  constructor
  · intro hneg
    have e : x = (r + n) + n * (q - 1) := by rw [← h1, Int.mul_sub]; omega
    rw [e, Int.add_mul_emod_self_left, Int.emod_eq_of_lt (by omega) (by omega)]
  · intro hpos
    have e : x = r + n * q := by omega
    rw [e, Int.add_mul_emod_self_left, Int.emod_eq_of_lt hpos h2]
theorem Pick_any (x n : Int) (w : World) (hn : 1 ≤ n) (hn1 : n ≤ 9223372036854775807) (x0 : -9223372036854775808 ≤ x) (x1 : x ≤ 9223372036854775807) :
    Calls Try.prog 42 #[.int .i64 x, .int .i64 n] w fun e w' => e = .returned (.int .i64 (x % n)) ∧ w = w' := by
  have H := Lib.hid (pick_tmod x n hn)
  have hlt := Int.emod_lt_of_pos x (show 0 < n by omega)
  by_cases hx : 0 ≤ x
  · have h0 := Int.emod_nonneg x (show n ≠ 0 by omega)
    go_enter Try.func42, Try.ntmps42
    go_wp2_with fail
    go_ret
    exact ⟨rfl, rfl⟩
  · have h3 : -n < x.tmod n := by
      have h4 := Int.tmod_lt_of_pos (-x) (show 0 < n by omega)
      rw [Int.neg_tmod] at h4
      omega
    have h5 : x.tmod n < n := Int.tmod_lt_of_pos x (by omega)
    clear hlt
    by_cases hr : x.tmod n < 0
    · have E := Lib.hid (H.out.1 hr)
      go_enter Try.func42, Try.ntmps42
      go_wp2_with fail
      go_ret
      exact ⟨ret_int E.out, rfl⟩
    · have E := Lib.hid (H.out.2 (by omega))
      go_enter Try.func42, Try.ntmps42
      go_wp2_with fail
      go_ret
      exact ⟨ret_int E.out, rfl⟩
theorem SameB_true (A : Option Addr) (len cap : Nat) (A2 : Option Addr) (len2 cap2 : Nat) (w : World) (l : List Int) (hlen : l.length = len) (hr : Sc.RdB w w.heap.size A l) (hm : len ≤ 9223372036854775807) (hlen2 : len2 = len) (hr2 : Sc.RdB w w.heap.size A2 l) :
    Calls Try.prog 24 #[.slice A len cap, .slice A2 len2 cap2] w fun e w' => e = .returned (.bool true) ∧ Below w.heap.size w w' := by
  subst hlen2
  have H := Lib.hid hlen; have HR := Lib.hid hr; have HR2 := Lib.hid hr2
  clear hlen hr hr2
  go_enter Try.func24, Try.ntmps24
  go_wp2_with fail
  go_loopw [5] (fun i wr => ∃ k : Nat, k ≤ len2 ∧ i = .int .i64 k ∧ Below w.heap.size w wr) (fun i _ => len2 - (intOf i).toNat)
  case atStart => exact ⟨0, Nat.zero_le _, rfl, Below.refl _ _⟩
  case round =>
    obtain ⟨k, hk, rfl, hb⟩ := hrel
    by_cases hlt : k < len2
    · obtain ⟨s, hs⟩ := Sc.get_some l k (by have := H.out; omega)
      obtain ⟨b, off, rfl, hb', h0⟩ := HR.out.below hb (by omega) k s hs
      obtain ⟨b2, off2, rfl, hb2', g0⟩ := HR2.out.below hb (by omega) k s hs
      clear hs
      go_wp2_with fail
      go_quiet (fail)
      go_wp2_with fail
      go_roundw
      case rel => exact ⟨k+1, by omega, by go_num, belowDrewN hb _⟩
      case measure => simp [intOf]; omega
    · obtain rfl : k = len2 := by omega
      clear hlt
      go_wp2_with fail
      go_ret
      exact ⟨rfl, hb⟩
/-- A list of parts of the two files. -/
def FewP (N M : Nat) (l : List S) : Prop := ∀ s ∈ l, (s.src = 0 ∨ s.src = 1) ∧ 0 ≤ s.at_ ∧ 1 ≤ s.len ∧ s.at_ + s.len ≤ (if s.src = 1 then (M : Int) else (N : Int))
theorem FewP.snoc {N M : Nat} {l : List S} {s : S} (h : FewP N M l) (hs : (s.src = 0 ∨ s.src = 1) ∧ 0 ≤ s.at_ ∧ 1 ≤ s.len ∧ s.at_ + s.len ≤ (if s.src = 1 then (M : Int) else (N : Int))) : FewP N M (l ++ [s]) := by
  intro u hu
  rcases List.mem_append.1 hu with h1 | h1
  · exact h u h1
  · rw [List.mem_singleton] at h1; subst h1; exact hs
set_option maxHeartbeats 1600000 in
set_option maxRecDepth 100000 in
theorem list_any (A : Option Addr) (len cap N M : Nat) (w : World) (l : List S) (hlen : l.length = len) (hr : Sc.Rd w w.heap.size A l) (_hm : len ≤ 9223372036854775807)
    (hwf : ∀ s ∈ l, -9223372036854775808 ≤ s.src ∧ s.src ≤ 9223372036854775807 ∧ -9223372036854775808 ≤ s.at_ ∧ s.at_ ≤ 9223372036854775807 ∧ -9223372036854775808 ≤ s.len ∧ s.len ≤ 9223372036854775807)
    (hN : N ≤ 2000) (hM : M ≤ 2000) :
    Calls Try.prog 21 #[.slice A len cap, .int .i64 N, .int .i64 M] w fun e w' => (∃ L A' n c, e = .returned (.slice A' n c) ∧ n ≤ 30 ∧ FewP N M L ∧ Sc.Own w' w.heap.size A' n c L) ∧ Below w.heap.size w w' := by
  obtain ⟨i0, hi, hz0, hz1, hz2⟩ := info_parts Sc.info31
  have H := Lib.hid hlen; have HR := Lib.hid hr; have HWF := Lib.hid hwf
  clear hlen hr hwf
  go_enter Try.func21, Try.ntmps21
  go_wp2_with fail
  generalize hBB : w.heap.size = BB at *
  have HB := Lib.hid hBB; clear hBB
  go_loopw [7, 8] (fun v i wr => ∃ k L A' n c, k ≤ len ∧ k ≤ 30 ∧ i = .int .i64 (k : Nat) ∧ v = .slice A' n c ∧ n ≤ k ∧ Hid (FewP N M L) ∧ Sc.Own wr BB A' n c L ∧ Below BB w wr) (fun _ i _ => len - (intOf i).toNat)
  case atStart => exact ⟨0, [], _, _, _, Nat.zero_le _, by omega, rfl, rfl, Nat.le_refl _, Lib.hid (fun s hs => by simp at hs), Sc.Own.nil _ _, Below.refl _ _⟩
  case round =>
    obtain ⟨k, L, A', n, c, hk, hk40, rfl, rfl, hnk, hfew, hown, hb⟩ := hrel
    have HO := Lib.hid hown
    have HBel := Lib.hid hb
    by_cases hlt : k < len ∧ k < 30
    · obtain ⟨hlt1, hlt2⟩ := hlt
      obtain ⟨s, hs⟩ := Sc.get_some l k (by have := H.out; omega)
      obtain ⟨f0, f1, f2, f3, f4, f5⟩ := HWF.out s (List.mem_of_getElem? hs)
      obtain ⟨b, off, rfl, hb', h0, h1, h2⟩ := HR.out.below hb (by omega) k s hs
      have hsz : BB ≤ wr.heap.size := by have := hb.size; have := HB.out; omega
      clear hs hown hb
      go_wp2_with fail
      refine (Pick_any s.src 2 _ (by omega) (by omega) f0 f1).mono ?_
      rintro e w2 ⟨rfl, rfl⟩
      have p0 := Int.emod_nonneg s.src (show (2 : Int) ≠ 0 by omega)
      have p1 := Int.emod_lt_of_pos s.src (show (0 : Int) < 2 by omega)
      generalize s.src % 2 = σ at *
      obtain ⟨t, ht, ht3⟩ : ∃ t : Nat, (t : Int) = (if σ = 1 then (M : Int) else (N : Int)) ∧ t ≤ 2000 := by
        by_cases h : σ = 1
        · exact ⟨M, by rw [if_pos h], hM⟩
        · exact ⟨N, by rw [if_neg h], hN⟩
      have HT := Lib.hid ht
      by_cases hs1 : σ = 1
      all_goals
        first
          | (have d9 : (σ == 1) = true := by simpa using hs1
             rw [if_pos hs1] at ht)
          | (have d9 : (σ == 1) = false := by simpa using hs1
             rw [if_neg hs1] at ht)
        have ht' : t = M ∨ t = N := by omega
        have ht2 := Int.ofNat.inj ht
        subst ht2
        clear ht ht'
        by_cases ht0 : t = 0
        · have d0 : ((t : Int) == 0) = true := by simpa using ht0
          clear ht0 hs1
          go_wp2_with fail
          go_roundw
          case rel => exact ⟨k+1, L, A', n, c, by omega, by omega, by go_num, rfl, by omega, hfew, HO.out, HBel.out⟩
          case measure => simp [intOf]; omega
        · have d0 : ((t : Int) == 0) = false := by simpa using ht0
          have d1 : 1 ≤ t := by omega
          clear ht0 hs1
          go_wp2_with fail
          refine (Pick_any s.at_ _ _ (by omega) (by omega) f2 f3).mono ?_
          rintro e w3 ⟨rfl, rfl⟩
          have q0 := Int.emod_nonneg s.at_ (show (t : Int) ≠ 0 by omega)
          have q1 := Int.emod_lt_of_pos s.at_ (show (0 : Int) < t by omega)
          generalize s.at_ % (t : Int) = α at *
          go_wp2_with fail
          refine (Pick_any s.len _ _ (by omega) (by omega) f4 f5).mono ?_
          rintro e w4 ⟨rfl, rfl⟩
          have r0 := Int.emod_nonneg s.len (show (t : Int) - α ≠ 0 by omega)
          have r1 := Int.emod_lt_of_pos s.len (show (0 : Int) < t - α by omega)
          generalize s.len % ((t : Int) - α) = μ at *
          go_wp2_with (at_builtin; refine wpList_append_own _ rfl _ _ 22 rfl BB 56 i0 _ 3 24 Try.underlying22 hi hz0 hz1 hz2 rfl (by decide) _ _ _ rfl (HO.out.alloc _).2 ⟨wr.heap.size, 0, none⟩ 1 1 (Sc.cells [⟨σ, α, 1 + μ⟩]) rfl rfl (Sc.new_one _ ⟨σ, α, 1 + μ⟩ _ rfl) (Sc.cells_one_cell _) (by unfold maxLen; omega) (by omega) (by simp; omega) ?_)
          intro v' w1 hown' hgrow _
          obtain ⟨⟨A'', c'', hv, hown2⟩, hb3, hst, hz3, hcl⟩ := Sc.app_step HO.out HBel.out hsz ((Below.refl _ _).alloc (Nat.le_refl _) _) hown' hgrow
          have HF2 := Lib.hid (hfew.out.snoc (s := ⟨σ, α, 1 + μ⟩) ⟨by simp only; omega, by simp only; omega, by simp only; omega, by rw [← HT.out]; simp only; omega⟩)
          rw [hv]
          clear hcl hgrow hown' hv
          go_wp2_with fail
          go_roundw
          case rel => exact ⟨k+1, _, A'', n+1, c'', by omega, by omega, by go_num, rfl, by omega, HF2, hown2, hb3⟩
          case measure => simp [intOf]; omega
    · go_wp2_with fail
      all_goals
        go_ret
        obtain rfl := HB.out
        exact ⟨⟨L, _, _, _, rfl, by omega, hfew.out, HO.out⟩, HBel.out⟩
end Go.Proofs.Ytdpjblepcpjomaa.Rb
