/-
  What the reference's has, with and without answer (lists of at most 1000000 numbers).
-/
import Derived.Test.YtobeppeadkoieaaFrame
namespace Go.Proofs.Ytobeppeadkoieaa
open Go.RowKit
theorem has_any (A : Option Addr) (len cap : Nat) (n : Int) (w : World) (l : List Int) (hlen : l.length = len) (hr : RdI w w.heap.size A l) (hm : len ≤ 1000000) :
    Calls Try.prog 31 #[.slice A len cap, .int .i64 n] w fun e w' => e = .returned (.bool (decide (n ∈ l))) ∧ w = w' := by
  have H := Lib.hid hlen; have HR := Lib.hid hr
  clear hlen hr
  go_enter Try.func31, Try.ntmps31
  go_wp2_with fail
  go_loopw [5] (fun i wr => ∃ k : Nat, k ≤ len ∧ i = .int .i64 k ∧ Hid (n ∉ l.take k) ∧ w = wr) (fun i _ => len - (intOf i).toNat)
  case atStart => exact ⟨0, Nat.zero_le _, rfl, Lib.hid (by simp), rfl⟩
  case round =>
    obtain ⟨k, hk, rfl, hno, rfl⟩ := hrel
    by_cases hlt : k < len
    · obtain ⟨x, hx⟩ := get_some l k (by have := H.out; omega)
      obtain ⟨b, off, rfl, hb, c0⟩ := HR.out k x hx
      by_cases he : x = n
      · have HI := Lib.hid (show decide (n ∈ l) = true from decide_eq_true (he ▸ List.mem_of_getElem? hx))
        have hd : (x == n) = true := by simpa using he
        clear hx he hb
        go_wp2_with fail
        go_ret
        exact ⟨ret_bool HI.out.symm, rfl⟩
      · have HI := Lib.hid (show n ∉ l.take (k+1) by rw [take_snoc l k x hx, List.mem_append, List.mem_singleton]; exact fun h => h.elim hno.out (fun e => he e.symm))
        have hd : (x == n) = false := by simpa using he
        clear hx he hb
        go_wp2_with fail
        go_roundw
        case rel => exact ⟨k+1, by omega, by go_num, HI, trivial⟩
        case measure => simp [intOf]; omega
    · obtain rfl : k = len := by omega
      have HI := Lib.hid (show decide (n ∈ l) = false by
        have h := hno.out
        rw [List.take_of_length_le (Nat.le_of_eq H.out)] at h
        exact decide_eq_false h)
      clear hlt
      go_wp2_with fail
      go_ret
      exact ⟨ret_bool HI.out.symm, rfl⟩
set_option maxHeartbeats 800000 in
set_option maxRecDepth 100000 in
theorem with_any (A : Option Addr) (len cap : Nat) (n : Int) (w : World) (l : List Int) (hlen : l.length = len) (hr : RdI w w.heap.size A l) (hm : len ≤ 1000000) :
    Calls Try.prog 32 #[.slice A len cap, .int .i64 n] w fun e w' => (∃ A' m c, e = .returned (.slice A' m c) ∧ OwnI w' w.heap.size A' m c (withL l n)) ∧ Below w.heap.size w w' := by
  obtain ⟨i0, hi, hz0, hz1, hz2⟩ := info_parts info3
  have H := Lib.hid hlen; have HR := Lib.hid hr
  clear hlen hr
  go_enter Try.func32, Try.ntmps32
  go_wp2_with fail
  refine (has_any A len cap n _ l H.out HR.out hm).mono ?_
  rintro e w1 ⟨rfl, rfl⟩
  go_wp2_with fail
  generalize hBB : w.heap.size = BB at *
  have HB := Lib.hid hBB; clear hBB
  go_loopw [5, 6, 7] (fun v d i wr => ∃ (k m : Nat) (A' : Option Addr) (c : Nat) (s : List Int) (q : Bool), k ≤ len ∧ i = .int .i64 k ∧ v = .slice A' m c ∧ d = .bool q ∧ Hid (OwnI wr BB A' m c s) ∧ Hid ((s, q) = (l.take k).foldl (wstep n) ([], decide (n ∈ l))) ∧ Hid (Below BB w wr)) (fun _ _ i _ => len - (intOf i).toNat)
  case atStart => exact ⟨0, 0, none, 0, [], _, Nat.zero_le _, rfl, rfl, rfl, Lib.hid (OwnI.nil _ _), Lib.hid rfl, Lib.hid (Below.refl _ _)⟩
  case round =>
    obtain ⟨k, m, A', c, s, q, hk, rfl, rfl, rfl, hown, hs, hb⟩ := hrel
    have hsz : BB ≤ wr.heap.size := by have := hb.out.size; have := HB.out; omega
    have hml : m ≤ 2 * k := by
      have h := wfold_len n (l.take k) ([], decide (n ∈ l))
      rw [← hs.out] at h
      have := hown.out.1
      simp only [List.length_nil, List.length_take] at h
      omega
    by_cases hlt : k < len
    · obtain ⟨x, hx⟩ := get_some l k (by have := H.out; omega)
      have HF := Lib.hid (wfold_take n l k x ([], decide (n ∈ l)) hx)
      obtain ⟨b, off, rfl, hb', c0⟩ := (HR.out.below hb.out (by have := HB.out; omega)) k x hx
      have hbz : b < wr.heap.size := by have := HB.out; omega
      clear hx hb'
      by_cases hc : q = false ∧ n < x
      · obtain ⟨rfl, hnx⟩ := hc
        have HS : Hid ((s ++ [n] ++ [x], true) = (l.take (k+1)).foldl (wstep n) ([], decide (n ∈ l))) := Lib.hid (by rw [HF.out, ← hs.out, wstep, if_pos ⟨rfl, hnx⟩, List.append_assoc]; rfl)
        have hd : decide (n < x) = true := decide_eq_true hnx
        clear hnx
        go_wp2_with (at_builtin; refine wpList_append_own _ rfl _ _ 30 rfl BB 3 i0 _ 1 8 Try.underlying30 hi hz0 hz1 hz2 rfl (by decide) _ _ _ rfl (hown.out.alloc _).2 ⟨wr.heap.size, 0, none⟩ 1 1 (icells [n]) rfl rfl (newi_one _ n _ rfl) (icells_one _) (by unfold maxLen; omega) (by omega) (by simp; omega) ?_)
        intro v' w2 hown' hgrow _
        obtain ⟨⟨A2, c2, hv, hown2⟩, hb2, hb22, _, _⟩ := appI_step hown.out hb.out hsz ((Below.refl _ _).alloc (Nat.le_refl _) _) (m := 1) (K := [n]) rfl hown' hgrow
        have c0' : w2.cell? ⟨b, off + k, none⟩ = some (.int .i64 x) := by
          have hRd := HR.out.below hb2 (Nat.le_refl _)
          obtain ⟨x', hx'⟩ := get_some l k (by have := H.out; omega)
          obtain ⟨b', off', e', _, c0'⟩ := hRd k x' hx'
          cases e'
          obtain ⟨b'', off'', e'', _, c0''⟩ := (HR.out.below hb.out (Nat.le_refl _)) k x' hx'
          cases e''
          rw [c0] at c0''
          cases c0''
          exact c0'
        have HO2 := Lib.hid hown2; have HB2 := Lib.hid hb2
        have hsz2 : BB ≤ w2.heap.size := by have := hb2.size; have := HB.out; omega
        rw [hv]
        clear hown' hgrow hv hown2 hb2 hb22 c0 hown hb hs hbz
        go_wp2_with (at_builtin; refine wpList_append_own _ rfl _ _ 30 rfl BB 3 i0 _ 1 8 Try.underlying30 hi hz0 hz1 hz2 rfl (by decide) _ _ _ rfl (HO2.out.alloc _).2 ⟨w2.heap.size, 0, none⟩ 1 1 (icells [x]) rfl rfl (newi_one _ x _ rfl) (icells_one _) (by unfold maxLen; omega) (by omega) (by simp; omega) ?_)
        intro v' w3 hown' hgrow _
        obtain ⟨⟨A3, c3, hv, hown3⟩, hb3, _, _, _⟩ := appI_step HO2.out HB2.out hsz2 ((Below.refl _ _).alloc (Nat.le_refl _) _) (m := 1) (K := [x]) rfl hown' hgrow
        have HO3 := Lib.hid hown3; have HB3 := Lib.hid hb3
        rw [hv]
        clear hown' hgrow hv hown3 hb3
        go_wp2_with fail
        go_roundw
        case rel => exact ⟨k+1, _, A3, c3, _, _, by omega, by go_num, rfl, rfl, HO3, HS, HB3⟩
        case measure => simp [intOf]; omega
      · have HS : Hid ((s ++ [x], q) = (l.take (k+1)).foldl (wstep n) ([], decide (n ∈ l))) := Lib.hid (by rw [HF.out, ← hs.out, wstep, if_neg hc])
        cases q with
        | true =>
          clear hc
          go_wp2_with (at_builtin; refine wpList_append_own _ rfl _ _ 30 rfl BB 3 i0 _ 1 8 Try.underlying30 hi hz0 hz1 hz2 rfl (by decide) _ _ _ rfl (hown.out.alloc _).2 ⟨wr.heap.size, 0, none⟩ 1 1 (icells [x]) rfl rfl (newi_one _ x _ rfl) (icells_one _) (by unfold maxLen; omega) (by omega) (by simp; omega) ?_)
          intro v' w3 hown' hgrow _
          obtain ⟨⟨A3, c3, hv, hown3⟩, hb3, _, _, _⟩ := appI_step hown.out hb.out hsz ((Below.refl _ _).alloc (Nat.le_refl _) _) (m := 1) (K := [x]) rfl hown' hgrow
          have HO3 := Lib.hid hown3; have HB3 := Lib.hid hb3
          rw [hv]
          clear hown' hgrow hv hown3 hb3
          go_wp2_with fail
          go_roundw
          case rel => exact ⟨k+1, _, A3, c3, _, _, by omega, by go_num, rfl, rfl, HO3, HS, HB3⟩
          case measure => simp [intOf]; omega
        | false =>
          have hd : decide (n < x) = false := decide_eq_false (fun h => hc ⟨rfl, h⟩)
          clear hc
          go_wp2_with (at_builtin; refine wpList_append_own _ rfl _ _ 30 rfl BB 3 i0 _ 1 8 Try.underlying30 hi hz0 hz1 hz2 rfl (by decide) _ _ _ rfl (hown.out.alloc _).2 ⟨wr.heap.size, 0, none⟩ 1 1 (icells [x]) rfl rfl (newi_one _ x _ rfl) (icells_one _) (by unfold maxLen; omega) (by omega) (by simp; omega) ?_)
          intro v' w3 hown' hgrow _
          obtain ⟨⟨A3, c3, hv, hown3⟩, hb3, _, _, _⟩ := appI_step hown.out hb.out hsz ((Below.refl _ _).alloc (Nat.le_refl _) _) (m := 1) (K := [x]) rfl hown' hgrow
          have HO3 := Lib.hid hown3; have HB3 := Lib.hid hb3
          rw [hv]
          clear hown' hgrow hv hown3 hb3
          go_wp2_with fail
          go_roundw
          case rel => exact ⟨k+1, _, A3, c3, _, _, by omega, by go_num, rfl, rfl, HO3, HS, HB3⟩
          case measure => simp [intOf]; omega
    · obtain rfl : k = len := by omega
      have hW := withL_fold l n
      have hs' := hs.out
      rw [List.take_of_length_le (Nat.le_of_eq H.out)] at hs'
      rw [← hs'] at hW
      simp only at hW
      have HW := Lib.hid hW
      clear hlt hW hs' hs
      cases q with
      | true =>
        have HW' : Hid (s = withL l n) := Lib.hid (by have := HW.out; simpa using this)
        go_wp2_with fail
        go_ret
        obtain rfl := HB.out
        exact ⟨⟨_, _, _, rfl, by rw [← HW'.out]; exact hown.out⟩, hb.out⟩
      | false =>
        have HW' : Hid (s ++ [n] = withL l n) := Lib.hid (by have := HW.out; simpa using this)
        go_wp2_with (at_builtin; refine wpList_append_own _ rfl _ _ 30 rfl BB 3 i0 _ 1 8 Try.underlying30 hi hz0 hz1 hz2 rfl (by decide) _ _ _ rfl (hown.out.alloc _).2 ⟨wr.heap.size, 0, none⟩ 1 1 (icells [n]) rfl rfl (newi_one _ n _ rfl) (icells_one _) (by unfold maxLen; omega) (by omega) (by simp; omega) ?_)
        intro v' w3 hown' hgrow _
        obtain ⟨⟨A3, c3, hv, hown3⟩, hb3, _, _, _⟩ := appI_step hown.out hb.out hsz ((Below.refl _ _).alloc (Nat.le_refl _) _) (m := 1) (K := [n]) rfl hown' hgrow
        have HO3 := Lib.hid hown3; have HB3 := Lib.hid hb3
        rw [hv]
        clear hown' hgrow hv hown3 hb3
        go_wp2_with fail
        go_ret
        obtain rfl := HB.out
        exact ⟨⟨_, _, _, rfl, by rw [← HW'.out]; exact HO3.out⟩, HB3.out⟩
theorem outL_take (l : List Int) (n : Int) (k : Nat) (x : Int) (h : l[k]? = some x) : outL (l.take (k+1)) n = outL (l.take k) n ++ (if x ≠ n then [x] else []) := by
  rw [take_snoc l k x h]
  unfold outL
  rw [List.filter_append]
  congr 1
  by_cases hx : x = n <;> simp [hx]
set_option maxHeartbeats 800000 in
set_option maxRecDepth 100000 in
theorem without_any (A : Option Addr) (len cap : Nat) (n : Int) (w : World) (l : List Int) (hlen : l.length = len) (hr : RdI w w.heap.size A l) (hm : len ≤ 1000000) :
    Calls Try.prog 33 #[.slice A len cap, .int .i64 n] w fun e w' => (∃ A' m c, e = .returned (.slice A' m c) ∧ OwnI w' w.heap.size A' m c (outL l n)) ∧ Below w.heap.size w w' := by
  obtain ⟨i0, hi, hz0, hz1, hz2⟩ := info_parts info3
  have H := Lib.hid hlen; have HR := Lib.hid hr
  clear hlen hr
  go_enter Try.func33, Try.ntmps33
  go_wp2_with fail
  generalize hBB : w.heap.size = BB at *
  have HB := Lib.hid hBB; clear hBB
  go_loopw [5, 6] (fun v i wr => ∃ (k m : Nat) (A' : Option Addr) (c : Nat), k ≤ len ∧ i = .int .i64 k ∧ v = .slice A' m c ∧ m ≤ k ∧ Hid (OwnI wr BB A' m c (outL (l.take k) n)) ∧ Hid (Below BB w wr)) (fun _ i _ => len - (intOf i).toNat)
  case atStart => exact ⟨0, 0, none, 0, Nat.zero_le _, rfl, rfl, Nat.le_refl _, Lib.hid (OwnI.nil _ _), Lib.hid (Below.refl _ _)⟩
  case round =>
    obtain ⟨k, m, A', c, hk, rfl, rfl, hmk, hown, hb⟩ := hrel
    have hsz : BB ≤ wr.heap.size := by have := hb.out.size; have := HB.out; omega
    by_cases hlt : k < len
    · obtain ⟨x, hx⟩ := get_some l k (by have := H.out; omega)
      have HF := Lib.hid (outL_take l n k x hx)
      obtain ⟨b, off, rfl, hb', c0⟩ := (HR.out.below hb.out (by have := HB.out; omega)) k x hx
      clear hx hb'
      by_cases hc : x = n
      · have HS : Hid (outL (l.take (k+1)) n = outL (l.take k) n) := Lib.hid (by rw [HF.out, if_neg (by simpa using hc), List.append_nil])
        have hd : (x == n) = true := by simpa using hc
        clear hc
        go_wp2_with fail
        go_roundw
        case rel => exact ⟨k+1, m, A', c, by omega, by go_num, rfl, by omega, by rw [HS.out]; exact hown, hb⟩
        case measure => simp [intOf]; omega
      · have HS : Hid (outL (l.take (k+1)) n = outL (l.take k) n ++ [x]) := Lib.hid (by rw [HF.out, if_pos hc])
        have hd : (x == n) = false := by simpa using hc
        clear hc
        go_wp2_with (at_builtin; refine wpList_append_own _ rfl _ _ 30 rfl BB 3 i0 _ 1 8 Try.underlying30 hi hz0 hz1 hz2 rfl (by decide) _ _ _ rfl (hown.out.alloc _).2 ⟨wr.heap.size, 0, none⟩ 1 1 (icells [x]) rfl rfl (newi_one _ x _ rfl) (icells_one _) (by unfold maxLen; omega) (by omega) (by simp; omega) ?_)
        intro v' w3 hown' hgrow _
        obtain ⟨⟨A3, c3, hv, hown3⟩, hb3, _, _, _⟩ := appI_step hown.out hb.out hsz ((Below.refl _ _).alloc (Nat.le_refl _) _) (m := 1) (K := [x]) rfl hown' hgrow
        have HO3 := Lib.hid hown3; have HB3 := Lib.hid hb3
        rw [hv]
        clear hown' hgrow hv hown3 hb3
        go_wp2_with fail
        go_roundw
        case rel => exact ⟨k+1, _, A3, c3, by omega, by go_num, rfl, by omega, by rw [HS.out]; exact HO3, HB3⟩
        case measure => simp [intOf]; omega
    · obtain rfl : k = len := by omega
      have e1 : l.take k = l := by rw [List.take_of_length_le (Nat.le_of_eq H.out)]
      rw [e1] at hown
      clear hlt
      go_wp2_with fail
      go_ret
      obtain rfl := HB.out
      exact ⟨⟨_, _, _, rfl, hown.out⟩, hb.out⟩
end Go.Proofs.Ytobeppeadkoieaa
