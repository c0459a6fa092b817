/-
  rise, long, and target: what they answer.
-/
import Derived.Test.YteceephenfmdoaaMBytes
import Derived.Test.YteceephenfmdoaaKLawr
namespace Go.Proofs.Yteceephenfmdoaa
open Go.RowKit
open Sc (RdB OwnB bcells)
def riseL (n : Nat) : List Int := (List.range n).map fun (i : Nat) => (i : Int) % 256
theorem riseL_next (n : Nat) : riseL (n + 1) = riseL n ++ [(n : Int) % 256] := by simp [riseL, List.range_succ]
theorem riseL_len (n : Nat) : (riseL n).length = n := by simp [riseL]
set_option maxRecDepth 100000 in
set_option maxHeartbeats 1000000 in
theorem rise_any (n : Nat) (w : World) (hn : n ≤ 100000) :
    Calls Try.prog 36 #[.int .i64 n] w fun e w' => (∃ A c, e = .returned (.slice A n c) ∧ OwnB w' w.heap.size A n c (riseL n)) ∧ Below w.heap.size w w' := by
  obtain ⟨i0, hi, hz0, hz1, hz2⟩ := info_parts Sc.info5
  go_enter Try.func36, Try.ntmps36
  go_wp2_with fail
  generalize hBB : w.heap.size = BB at *
  have HB := Lib.hid hBB; clear hBB
  go_loopw [3, 4] (fun v i wr => ∃ k A' c, k ≤ n ∧ i = .int .i64 k ∧ v = .slice A' k c ∧ Hid (OwnB wr BB A' k c (riseL k) ∧ Below BB w wr)) (fun _ i _ => n - (intOf i).toNat)
  case atStart => exact ⟨0, none, 0, Nat.zero_le _, rfl, rfl, Lib.hid ⟨Sc.OwnB.nil _ _, Below.refl _ _⟩⟩
  case round =>
    obtain ⟨k, A', c, hk, rfl, rfl, HI⟩ := hrel
    have hcap := HI.out.1.cap
    unfold maxLen at hcap
    by_cases hlt : k < n
    · have hsz : BB ≤ wr.heap.size := by have := HI.out.2.size; have := HB.out; omega
      have hwr : IntKind.u8.wrap (k : Int) = (k : Int) % 256 := by rw [IntKind.wrap_u8]
      go_wp2_with (at_builtin; (refine wpList_append_own _ rfl _ _ 22 rfl BB 5 i0 _ 1 1 Try.underlying22 hi hz0 hz1 hz2 rfl (by decide) _ _ _ rfl (HI.out.1.alloc _).2 ⟨wr.heap.size, 0, none⟩ 1 1 (bcells [(k : Int) % 256]) rfl rfl (Sc.newb_one _ _ _ rfl) (Sc.bcells_one _) (by unfold maxLen; omega) (by omega) (by simp; omega) ?_))
      intro v' w5 hown' hgrow _
      obtain ⟨⟨A'', c'', hv, hown2⟩, hb5, _, hz3, hcl⟩ := Sc.appB_step HI.out.1 HI.out.2 hsz ((Below.refl _ _).alloc (Nat.le_refl _) _) (m := 1) (K := [(k : Int) % 256]) rfl hown' hgrow
      rw [hv]
      have HN : Hid (OwnB w5 BB A'' (k + 1) c'' (riseL (k + 1))) := Lib.hid (by rw [riseL_next]; exact hown2)
      have HB5 := Lib.hid hb5
      clear hcl hgrow hown' hv hown2 hb5 hz3 HI
      go_wp2_with fail
      go_roundw
      case measure => simp [intOf]; omega
      case rel => exact ⟨k + 1, A'', c'', by omega, by go_num, rfl, Lib.hid ⟨HN.out, HB5.out⟩⟩
    · obtain rfl : k = n := by omega
      clear hlt
      go_wp2_with fail
      go_ret
      obtain rfl := HB.out
      exact ⟨⟨_, _, rfl, HI.out.1⟩, HI.out.2⟩
/-! ### long -/
def longB (a b c : Nat) : Bool := decide (2000 < a) || (decide (1000 < b) || decide (30 < c))
theorem longB_not {a b c : Nat} (h : longB a b c = false) : a ≤ 2000 ∧ b ≤ 1000 ∧ c ≤ 30 := by
  unfold longB at h
  simp only [Bool.or_eq_false_iff, decide_eq_false_iff_not] at h
  omega
theorem long_any (A : Option Addr) (a ca : Nat) (B : Option Addr) (b cb : Nat) (C : Option Addr) (c cc : Nat) (w : World) :
    Calls Try.prog 12 #[.slice A a ca, .slice B b cb, .slice C c cc] w fun e w' => e = .returned (.bool (longB a b c)) ∧ w = w' := by
  by_cases h1 : 2000 < a
  · have HV : Hid (longB a b c = true) := Lib.hid (by unfold longB; simp [h1])
    have f1 : decide ((2000 : Int) < (a : Int)) = true := decide_eq_true (by omega)
    clear h1
    go_enter Try.func12, Try.ntmps12
    go_wp2_with fail
    go_ret
    exact ⟨Sc.ret_bool HV.out.symm, rfl⟩
  · have f1 : decide ((2000 : Int) < (a : Int)) = false := decide_eq_false (by omega)
    by_cases h2 : 1000 < b
    · have HV : Hid (longB a b c = true) := Lib.hid (by unfold longB; simp [h2])
      have f2 : decide ((1000 : Int) < (b : Int)) = true := decide_eq_true (by omega)
      clear h1 h2
      go_enter Try.func12, Try.ntmps12
      go_wp2_with fail
      go_ret
      exact ⟨Sc.ret_bool HV.out.symm, rfl⟩
    · have f2 : decide ((1000 : Int) < (b : Int)) = false := decide_eq_false (by omega)
      by_cases h3 : 30 < c
      · have HV : Hid (longB a b c = true) := Lib.hid (by unfold longB; simp [h3])
        have f3 : decide ((30 : Int) < (c : Int)) = true := decide_eq_true (by omega)
        clear h1 h2 h3
        go_enter Try.func12, Try.ntmps12
        go_wp2_with fail
        go_ret
        exact ⟨Sc.ret_bool HV.out.symm, rfl⟩
      · have HV : Hid (longB a b c = false) := Lib.hid (by unfold longB; simp [h1, h2, h3])
        have f3 : decide ((30 : Int) < (c : Int)) = false := decide_eq_false (by omega)
        clear h1 h2 h3
        go_enter Try.func12, Try.ntmps12
        go_wp2_with fail
        go_ret
        exact ⟨Sc.ret_bool HV.out.symm, rfl⟩
/-! ### target -/
def partN (size tail : Int) (x : S) : Int := if x.src % 2 = 1 then tail else size
def mkS (size tail : Int) (x : S) : S := ⟨x.src % 2, x.at_ % partN size tail x, 1 + x.len % (partN size tail x - x.at_ % partN size tail x)⟩
def mkL (size tail : Int) (x : S) : List S := if partN size tail x = 0 then [] else [mkS size tail x]
def targetL (parts : List S) (size tail : Int) : List S := parts.flatMap (mkL size tail)
theorem targetL_next {parts : List S} {k : Nat} {x : S} (h : parts[k]? = some x) (size tail : Int) : targetL (parts.take (k + 1)) size tail = targetL (parts.take k) size tail ++ mkL size tail x := by
  unfold targetL
  rw [Sc.take_snoc _ k x h, List.flatMap_append]; simp
theorem mkL_len (size tail : Int) (x : S) : (mkL size tail x).length ≤ 1 := by unfold mkL; split <;> simp
theorem targetL_len (parts : List S) (size tail : Int) : (targetL parts size tail).length ≤ parts.length := by
  induction parts with
  | nil => simp [targetL]
  | cons a l ih =>
    have := mkL_len size tail a
    unfold targetL at *
    rw [List.flatMap_cons, List.length_append, List.length_cons]; omega
theorem mkS_ok {size tail : Int} (hs : 0 ≤ size ∧ size ≤ 100000) (ht : 0 ≤ tail ∧ tail ≤ 100000) (x : S) (h : partN size tail x ≠ 0) : Sc.okS (mkS size tail x) ∧ (mkS size tail x).src ≤ 1 ∧ (mkS size tail x).at_ + (mkS size tail x).len ≤ partN size tail x := by
  have h0 : 0 ≤ partN size tail x ∧ partN size tail x ≤ 100000 := by unfold partN; split <;> omega
  have h1 := Int.emod_nonneg x.at_ h
  have h2 := Int.emod_lt_of_pos x.at_ (show 0 < partN size tail x by omega)
  have h3 := Int.emod_nonneg x.len (show partN size tail x - x.at_ % partN size tail x ≠ 0 by omega)
  have h4 := Int.emod_lt_of_pos x.len (show 0 < partN size tail x - x.at_ % partN size tail x by omega)
  unfold Sc.okS mkS
  simp only
  omega
theorem target_each {size tail : Int} (hs : 0 ≤ size ∧ size ≤ 100000) (ht : 0 ≤ tail ∧ tail ≤ 100000) {parts : List S} : ∀ s ∈ targetL parts size tail, Sc.okS s ∧ s.src ≤ 1 ∧ (s.src = 0 → s.at_ + s.len ≤ size) ∧ (s.src = 1 → s.at_ + s.len ≤ tail) := fun s h => by
  obtain ⟨x, _, hx⟩ := List.mem_flatMap.1 h
  unfold mkL at hx
  split at hx
  · cases hx
  · simp at hx
    subst hx
    obtain ⟨h1, h2, h3⟩ := mkS_ok hs ht x (by assumption)
    refine ⟨h1, h2, fun h0 => ?_, fun h0 => ?_⟩
    · unfold partN at h3
      rw [if_neg (by unfold mkS at h0; simp only at h0; omega)] at h3
      exact h3
    · unfold partN at h3
      rw [if_pos (by unfold mkS at h0; simp only at h0; omega)] at h3
      exact h3
theorem target_tot {size tail : Int} (hs : 0 ≤ size ∧ size ≤ 100000) (ht : 0 ≤ tail ∧ tail ≤ 100000) {M : Int} (hM : size ≤ M ∧ tail ≤ M) : ∀ parts : List S, Sc.tot (targetL parts size tail) ≤ parts.length * M := by
  intro parts
  induction parts with
  | nil => simp [targetL, Sc.tot]
  | cons a l ih =>
    unfold targetL at *
    rw [List.flatMap_cons, Sc.tot_append]
    have h1 : Sc.tot (mkL size tail a) ≤ M := by
      unfold mkL
      split
      · simp [Sc.tot]; omega
      · obtain ⟨h1, h2, h3⟩ := mkS_ok hs ht a (by assumption)
        have h4 : partN size tail a ≤ M := by unfold partN; split <;> omega
        unfold Sc.okS at h1
        simp only [Sc.tot]; omega
    rw [List.length_cons]
    have : ((l.length + 1 : Nat) : Int) * M = l.length * M + M := by rw [Int.natCast_add, Int.add_mul]; omega
    rw [this]; omega
theorem target_may {size tail : Int} (hs : 0 ≤ size ∧ size ≤ 100000) (ht : 0 ≤ tail ∧ tail ≤ 100000) {parts : List S} (hp : parts.length ≤ 100) : TargetP (targetL parts size tail) size := by
  refine ⟨⟨fun s h => (target_each hs ht s h).1, ?_⟩, fun s h => ?_⟩
  · have h1 := target_tot hs ht (M := 100000) (by omega) parts
    have h2 : (parts.length : Int) * 100000 ≤ 100 * 100000 := by omega
    omega
  · have := target_each hs ht s h
    exact ⟨by omega, this.2.2.1⟩
set_option maxRecDepth 100000 in
set_option maxHeartbeats 2000000 in
theorem target_any (A : Option Addr) (len cap : Nat) (parts : List S) (size tail : Int) (w : World) (hlen : parts.length = len) (hr : Sc.Rd w w.heap.size A parts) (hI : ∀ x ∈ parts, I64 x.src ∧ I64 x.at_ ∧ I64 x.len) (hl : len ≤ 100) (hs : 0 ≤ size ∧ size ≤ 100000) (ht : 0 ≤ tail ∧ tail ≤ 100000) :
    Calls Try.prog 13 #[.slice A len cap, .int .i64 size, .int .i64 tail] w fun e w' => (∃ A' n c, e = .returned (.slice A' n c) ∧ Sc.Own w' w.heap.size A' n c (targetL parts size tail)) ∧ Below w.heap.size w w' := by
  obtain ⟨i0, hi, hz0, hz1, hz2⟩ := info_parts Sc.info31
  have HL := Lib.hid hlen; have HR := Lib.hid hr; have HI := Lib.hid hI
  clear hlen hr hI
  go_enter Try.func13, Try.ntmps13
  go_wp2_with fail
  generalize hBB : w.heap.size = BB at *
  have HB := Lib.hid hBB; clear hBB
  go_loopw [7, 8] (fun v i wr => ∃ (k : Nat) (A' : Option Addr) (n c : Nat), k ≤ len ∧ i = .int .i64 k ∧ v = .slice A' n c ∧ n ≤ k ∧ Hid (Sc.Own wr BB A' n c (targetL (parts.take k) size tail) ∧ Below BB w wr)) (fun _ i _ => len - (intOf i).toNat)
  case atStart => exact ⟨0, none, 0, 0, Nat.zero_le _, rfl, rfl, Nat.le_refl _, Lib.hid ⟨by simpa [targetL] using Sc.Own.nil _ _, Below.refl _ _⟩⟩
  case round =>
    obtain ⟨k, A', n, c, hk, rfl, rfl, hn, HJ⟩ := hrel
    have hcap := HJ.out.1.cap
    unfold maxLen at hcap
    have hsz : BB ≤ wr.heap.size := by have := HJ.out.2.size; have := HB.out; omega
    by_cases hlt : k < len
    · obtain ⟨x, hx⟩ := Sc.get_some parts k (by have := HL.out; omega)
      obtain ⟨b, off, rfl, hbb, d0, d1, d2⟩ := (HR.out.below HJ.out.2 (Nat.le_refl _)) k x hx
      have hxi := HI.out x (List.mem_of_getElem? hx)
      have HNX := Lib.hid (targetL_next hx size tail)
      have hok : partN size tail x ≠ 0 → _ := mkS_ok hs ht x
      have hsrc : 0 ≤ x.src % 2 ∧ x.src % 2 < 2 := by omega
      obtain ⟨src, at_, xl⟩ := x
      unfold I64 at hxi
      simp only at d0 d1 d2 hxi hsrc
      clear hx
      go_wp2_with fail
      refine (Pick_any src 2 wr (by omega) (by omega) hxi.1.1 hxi.1.2).mono ?_
      rintro e w5 ⟨rfl, rfl⟩
      obtain ⟨y, hy⟩ : ∃ y, src % 2 = y := ⟨_, rfl⟩
      have HY := Lib.hid hy
      rw [hy] at hsrc ⊢
      by_cases h1 : y = 1
      · have h2 : src % 2 = 1 := by omega
        clear hy
        have HPN : Hid (partN size tail ⟨src, at_, xl⟩ = tail) := Lib.hid (by unfold partN; exact if_pos (by simp only; omega))
        have f1 : (y == 1) = true := by simpa using h1
        clear h1
        by_cases hzz : tail = 0
        · have f2 : (tail == 0) = true := by simpa using hzz
          have HN2 : Hid (Sc.Own wr BB A' n c (targetL (parts.take (k + 1)) size tail)) := Lib.hid (by
            have e : mkL size tail ⟨src, at_, xl⟩ = [] := by unfold mkL; rw [if_pos (by rw [HPN.out]; exact hzz)]
            rw [HNX.out, e, List.append_nil]; exact HJ.out.1)
          have HB2 := Lib.hid HJ.out.2
          clear hzz HJ hok d0 d1 d2
          go_wp2_with fail
          go_roundw
          case measure => simp [intOf]; omega
          case rel => exact ⟨k + 1, A', n, c, by omega, by go_num, rfl, by omega, Lib.hid ⟨HN2.out, HB2.out⟩⟩
        · have f2 : (tail == 0) = false := by simpa using hzz
          have hN1 : 1 ≤ tail := by omega
          have a0 := Int.emod_nonneg at_ hzz
          have a1 := Int.emod_lt_of_pos at_ (show 0 < tail by omega)
          have l0 := Int.emod_nonneg xl (show tail - at_ % tail ≠ 0 by omega)
          have l1 := Int.emod_lt_of_pos xl (show 0 < tail - at_ % tail by omega)
          have HE : Hid (mkL size tail ⟨src, at_, xl⟩ = [⟨y, at_ % tail, 1 + xl % (tail - at_ % tail)⟩]) := Lib.hid (by
            unfold mkL
            rw [if_neg (by rw [HPN.out]; exact hzz)]
            unfold mkS
            simp only [HPN.out, HY.out])
          clear hzz hok
          go_wp2_with fail
          refine (Pick_any at_ tail wr hN1 (by omega) hxi.2.1.1 hxi.2.1.2).mono ?_
          rintro e w6 ⟨rfl, rfl⟩
          generalize at_ % tail = a at *
          go_wp2_with fail
          refine (Pick_any xl (tail - a) wr (by omega) (by omega) hxi.2.2.1 hxi.2.2.2).mono ?_
          rintro e w7 ⟨rfl, rfl⟩
          generalize xl % (tail - a) = r at *
          go_wp2_with (at_builtin; refine wpList_append_own _ rfl _ _ 26 rfl BB 48 i0 _ 3 24 Try.underlying26 hi hz0 hz1 hz2 rfl (by decide) _ _ _ rfl (HJ.out.1.alloc _).2 ⟨wr.heap.size, 0, none⟩ 1 1 (Sc.cells [⟨y, a, 1 + r⟩]) rfl rfl (Sc.new_one _ ⟨y, a, 1 + r⟩ _ rfl) (Sc.cells_one_cell _) (by unfold maxLen; omega) (by omega) (by simp; omega) ?_)
          intro v' w8 hown' hgrow _
          obtain ⟨⟨A8, c8, hv, hown8⟩, hb8, _, hz8, hcl⟩ := Sc.app_step HJ.out.1 HJ.out.2 hsz ((Below.refl _ _).alloc (Nat.le_refl _) _) hown' hgrow
          rw [hv]
          have HN8 : Hid (Sc.Own w8 BB A8 (n + 1) c8 (targetL (parts.take (k + 1)) size tail)) := Lib.hid (by rw [HNX.out, HE.out]; exact hown8)
          have HB8 := Lib.hid hb8
          clear hcl hgrow hown' hv hown8 hb8 hz8 HJ d0 d1 d2
          go_wp2_with fail
          go_roundw
          case measure => simp [intOf]; omega
          case rel => exact ⟨k + 1, A8, n + 1, c8, by omega, by go_num, rfl, by omega, Lib.hid ⟨HN8.out, HB8.out⟩⟩
      · have h2 : ¬ src % 2 = 1 := by omega
        clear hy
        have HPN : Hid (partN size tail ⟨src, at_, xl⟩ = size) := Lib.hid (by unfold partN; exact if_neg (by simp only; omega))
        have f1 : (y == 1) = false := by simpa using h1
        clear h1
        by_cases hzz : size = 0
        · have f2 : (size == 0) = true := by simpa using hzz
          have HN2 : Hid (Sc.Own wr BB A' n c (targetL (parts.take (k + 1)) size tail)) := Lib.hid (by
            have e : mkL size tail ⟨src, at_, xl⟩ = [] := by unfold mkL; rw [if_pos (by rw [HPN.out]; exact hzz)]
            rw [HNX.out, e, List.append_nil]; exact HJ.out.1)
          have HB2 := Lib.hid HJ.out.2
          clear hzz HJ hok d0 d1 d2
          go_wp2_with fail
          go_roundw
          case measure => simp [intOf]; omega
          case rel => exact ⟨k + 1, A', n, c, by omega, by go_num, rfl, by omega, Lib.hid ⟨HN2.out, HB2.out⟩⟩
        · have f2 : (size == 0) = false := by simpa using hzz
          have hN1 : 1 ≤ size := by omega
          have a0 := Int.emod_nonneg at_ hzz
          have a1 := Int.emod_lt_of_pos at_ (show 0 < size by omega)
          have l0 := Int.emod_nonneg xl (show size - at_ % size ≠ 0 by omega)
          have l1 := Int.emod_lt_of_pos xl (show 0 < size - at_ % size by omega)
          have HE : Hid (mkL size tail ⟨src, at_, xl⟩ = [⟨y, at_ % size, 1 + xl % (size - at_ % size)⟩]) := Lib.hid (by
            unfold mkL
            rw [if_neg (by rw [HPN.out]; exact hzz)]
            unfold mkS
            simp only [HPN.out, HY.out])
          clear hzz hok
          go_wp2_with fail
          refine (Pick_any at_ size wr hN1 (by omega) hxi.2.1.1 hxi.2.1.2).mono ?_
          rintro e w6 ⟨rfl, rfl⟩
          generalize at_ % size = a at *
          go_wp2_with fail
          refine (Pick_any xl (size - a) wr (by omega) (by omega) hxi.2.2.1 hxi.2.2.2).mono ?_
          rintro e w7 ⟨rfl, rfl⟩
          generalize xl % (size - a) = r at *
          go_wp2_with (at_builtin; refine wpList_append_own _ rfl _ _ 26 rfl BB 48 i0 _ 3 24 Try.underlying26 hi hz0 hz1 hz2 rfl (by decide) _ _ _ rfl (HJ.out.1.alloc _).2 ⟨wr.heap.size, 0, none⟩ 1 1 (Sc.cells [⟨y, a, 1 + r⟩]) rfl rfl (Sc.new_one _ ⟨y, a, 1 + r⟩ _ rfl) (Sc.cells_one_cell _) (by unfold maxLen; omega) (by omega) (by simp; omega) ?_)
          intro v' w8 hown' hgrow _
          obtain ⟨⟨A8, c8, hv, hown8⟩, hb8, _, hz8, hcl⟩ := Sc.app_step HJ.out.1 HJ.out.2 hsz ((Below.refl _ _).alloc (Nat.le_refl _) _) hown' hgrow
          rw [hv]
          have HN8 : Hid (Sc.Own w8 BB A8 (n + 1) c8 (targetL (parts.take (k + 1)) size tail)) := Lib.hid (by rw [HNX.out, HE.out]; exact hown8)
          have HB8 := Lib.hid hb8
          clear hcl hgrow hown' hv hown8 hb8 hz8 HJ d0 d1 d2
          go_wp2_with fail
          go_roundw
          case measure => simp [intOf]; omega
          case rel => exact ⟨k + 1, A8, n + 1, c8, by omega, by go_num, rfl, by omega, Lib.hid ⟨HN8.out, HB8.out⟩⟩
    · obtain rfl : k = len := by omega
      clear hlt
      rw [List.take_of_length_le (by have := HL.out; omega)] at HJ
      go_wp2_with fail
      go_ret
      obtain rfl := HB.out
      exact ⟨⟨_, _, _, rfl, HJ.out.1⟩, HJ.out.2⟩
end Go.Proofs.Yteceephenfmdoaa
