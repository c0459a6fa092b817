/-
  What the reference's Same, Lent and Kept answer of bytes, and Pick.
-/
import Derived.Test.YteceephenfmdoaaSE
namespace Go.Proofs.Yteceephenfmdoaa.Sc
open Go.RowKit
theorem OwnB.form {w : World} {base : Nat} {A : Option Addr} {n cap : Nat} {l : List Int} (h : OwnB w base A n cap l) (hn : 0 < n) : ∃ g, A = some ⟨g, 0, .none⟩ ∧ base ≤ g ∧ g < w.heap.size ∧ n ≤ cap ∧ cap ≤ maxLen := by
  obtain ⟨hl, h1, h2⟩ := h
  rcases h2 with ⟨hv, hn'⟩ | ⟨g, cap', cur, hv, hbg, hg, hnc, hcm, _⟩
  · omega
  · injection hv with ha _ hc
    subst hc
    exact ⟨g, ha, hbg, (Array.getElem?_eq_some_iff.1 hg).1, hnc, hcm⟩
def icells (l : List Int) : List Value := l.map (Value.int .i64)
def mk3 : List Int := [165, 90, 165]
theorem RdB.left {w : World} {B : Nat} {A : Option Addr} {l m : List Int} (h : RdB w B A (l ++ m)) : RdB w B A l := by
  intro k s hs
  exact h k s (by rw [List.getElem?_append_left ((List.getElem?_eq_some_iff.1 hs).1)]; exact hs)
theorem newb_three (w : World) (g : Nat) (hg : g = w.heap.size) : ∀ j u, (bcells mk3)[j]? = some u → (w.alloc (.cells #[.int .u8 165, .int .u8 90, .int .u8 165] 5)).cell? ((⟨g, 0, none⟩ : Addr).add j) = some u := by
  subst hg
  intro j u hu
  have hadd : (⟨w.heap.size, 0, none⟩ : Addr).add j = ⟨w.heap.size, j, none⟩ := by unfold Addr.add; split <;> simp_all
  rw [hadd, cell_new]
  simpa [bcells, mk3] using hu
set_option maxRecDepth 100000 in
set_option maxHeartbeats 1000000 in
theorem SameB_true (A : Option Addr) (len cap : Nat) (A2 : Option Addr) (len2 cap2 : Nat) (w : World) (l : List Int) (hlen : l.length = len) (hr : RdB w w.heap.size A l) (hm : len ≤ 9223372036854775807) (hlen2 : len2 = len) (hr2 : RdB w w.heap.size A2 l) :
    Calls Try.prog 24 #[.slice A len cap, .slice A2 len2 cap2] w fun e w' => e = .returned (.bool true) ∧ Below w.heap.size w w' := by
  subst hlen2
  have H := Lib.hid hlen; have HR := Lib.hid hr; have HR2 := Lib.hid hr2
  clear hlen hr hr2
  go_enter Try.func24, Try.ntmps24
  go_wp2_with fail
  go_loopw [5] (fun i wr => ∃ k : Nat, k ≤ len2 ∧ i = .int .i64 k ∧ Below w.heap.size w wr) (fun i _ => len2 - (intOf i).toNat)
  case atStart => exact ⟨0, Nat.zero_le _, rfl, Below.refl _ _⟩
  case round =>
    obtain ⟨k, hk, rfl, hb⟩ := hrel
    by_cases hlt : k < len2
    · obtain ⟨s, hs⟩ := get_some l k (by have := H.out; omega)
      obtain ⟨b, off, rfl, hb', h0⟩ := HR.out.below hb (by omega) k s hs
      obtain ⟨b2, off2, rfl, hb2', g0⟩ := HR2.out.below hb (by omega) k s hs
      clear hs
      go_wp2_with fail
      go_quiet (fail)
      go_wp2_with fail
      go_roundw
      case rel => exact ⟨k+1, by omega, by go_num, belowDrewN hb _⟩
      case measure => simp [intOf]; omega
    · obtain rfl : k = len2 := by omega
      clear hlt
      go_wp2_with fail
      go_ret
      exact ⟨rfl, hb⟩
set_option maxRecDepth 100000 in
set_option maxHeartbeats 1000000 in
theorem LentB_any (A : Option Addr) (len cap : Nat) (w : World) (l : List Int) (hlen : l.length = len) (hr : RdB w w.heap.size A l) (hm : len + 3 ≤ 140737488355328) :
    Calls Try.prog 32 #[.slice A len cap] w fun e w' => (∃ g c, e = .returned (.slice (some ⟨g, 0, none⟩) len c) ∧ OwnB w' w.heap.size (some ⟨g, 0, none⟩) (len + 3) c (l ++ mk3)) ∧ Below w.heap.size w w' := by
  obtain ⟨i0, hi, hz0, hz1, hz2⟩ := info_parts info5
  have H := Lib.hid hlen; have HR := Lib.hid hr
  clear hlen hr
  go_enter Try.func32, Try.ntmps32
  go_wp2_with fail
  refine (Copy_any A len cap _ l H.out HR.out (by omega)).mono ?_
  rintro e w1 ⟨⟨A5, n5, c5, rfl, hown5⟩, hb⟩
  obtain rfl : len = n5 := H.out.symm.trans hown5.1
  have HO5 := Lib.hid hown5
  have HBB := Lib.hid hb
  have hsz5 : w.heap.size ≤ w1.heap.size := hb.size
  clear hown5 hb
  go_wp2_with (at_builtin; refine wpList_append_own _ rfl _ _ 22 rfl w.heap.size 5 i0 _ 1 1 Try.underlying22 hi hz0 hz1 hz2 rfl (by decide) _ _ _ rfl (HO5.out.alloc _).2 ⟨w1.heap.size, 0, none⟩ 3 3 (bcells mk3) rfl rfl (newb_three _ _ rfl) (bcells_one _) (by unfold maxLen; omega) (by omega) (by simp; omega) ?_)
  intro v' w2 hown' hgrow _
  obtain ⟨⟨A6, c6, hv, hown6⟩, hbb, _, hsz6, _⟩ := appB_step HO5.out HBB.out hsz5 ((Below.refl _ _).alloc (Nat.le_refl _) _) (m := 3) (K := mk3) rfl hown' hgrow
  obtain ⟨g, rfl, _, _, hc6, hc7⟩ := hown6.form (by omega)
  have HO6 := Lib.hid hown6
  have HB6 := Lib.hid hbb
  unfold maxLen at hc7
  have hc8 : len ≤ c6 := by omega
  rw [hv]
  clear hown' hgrow hv hown6 hbb hsz6
  go_wp2_with fail
  go_ret
  exact ⟨⟨_, _, rfl, HO6.out⟩, HB6.out⟩
set_option maxRecDepth 100000 in
set_option maxHeartbeats 1000000 in
theorem KeptB_any (A : Option Addr) (len cap : Nat) (A2 : Option Addr) (cap2 : Nat) (w : World) (l : List Int) (hlen : l.length = len) (hr : RdB w w.heap.size A (l ++ mk3)) (hcap : len + 3 ≤ cap) (hcap2 : cap ≤ 9223372036854775807) (hr2 : RdB w w.heap.size A2 l) :
    Calls Try.prog 33 #[.slice A len cap, .slice A2 len cap2] w fun e w' => e = .returned (.bool true) ∧ Below w.heap.size w w' := by
  have H := Lib.hid hlen; have HR := Lib.hid hr; have HR2 := Lib.hid hr2
  clear hlen hr hr2
  go_enter Try.func33, Try.ntmps33
  go_wp2_with fail
  refine (SameB_true A len cap A2 len cap2 _ l H.out HR.out.left (by omega) rfl HR2.out).mono ?_
  rintro e w1 ⟨rfl, hb⟩
  have HB1 := Lib.hid hb
  have hrd := HR.out.up hb
  have hget : ∀ j : Nat, (l ++ mk3)[len + j]? = mk3[j]? := fun j => by rw [List.getElem?_append_right (by have := H.out; omega), H.out]; congr 1; omega
  obtain ⟨b, off, rfl, hb', c0⟩ := hrd (len + 0) 165 (by rw [hget]; rfl)
  obtain ⟨b2, off2, e2, _, c1⟩ := hrd (len+1) 90 (by rw [hget]; rfl)
  cases e2
  obtain ⟨b2, off2, e2, _, c2⟩ := hrd (len+2) 165 (by rw [hget]; rfl)
  cases e2
  rw [Nat.add_zero] at c0
  clear hrd hb hget
  go_wp2_with fail
  go_ret
  exact ⟨rfl, HB1.out⟩
end Go.Proofs.Yteceephenfmdoaa.Sc
namespace Go.Proofs.Yteceephenfmdoaa
open Go.RowKit
theorem pick_tmod (x n : Int) (h : 1 ≤ n) : (x.tmod n < 0 → x.tmod n + n = x % n) ∧ (0 ≤ x.tmod n → x.tmod n = x % n) := by
  have h1 := Int.mul_tdiv_add_tmod x n
  have h2 : x.tmod n < n := Int.tmod_lt_of_pos x (by omega)
  have h3 : -n < x.tmod n := by
    by_cases hx : 0 ≤ x
    · have := Int.tmod_nonneg n hx; omega
    · have h4 := Int.tmod_lt_of_pos (-x) (show 0 < n by omega)
      rw [Int.neg_tmod] at h4
      omega
  generalize hr : x.tmod n = r at *
  generalize x.tdiv n = q at *
  constructor
  · intro hneg
    have e : x = (r + n) + n * (q - 1) := by rw [← h1, Int.mul_sub]; omega
    rw [e, Int.add_mul_emod_self_left, Int.emod_eq_of_lt (by omega) (by omega)]
  · intro hpos
    have e : x = r + n * q := by omega
    rw [e, Int.add_mul_emod_self_left, Int.emod_eq_of_lt hpos h2]
set_option maxRecDepth 100000 in
theorem Pick_any (x n : Int) (w : World) (hn : 1 ≤ n) (hn1 : n ≤ 9223372036854775807) (x0 : -9223372036854775808 ≤ x) (x1 : x ≤ 9223372036854775807) :
    Calls Try.prog 30 #[.int .i64 x, .int .i64 n] w fun e w' => e = .returned (.int .i64 (x % n)) ∧ w = w' := by
  have H := Lib.hid (pick_tmod x n hn)
  have hlt := Int.emod_lt_of_pos x (show 0 < n by omega)
  by_cases hx : 0 ≤ x
  · have h0 := Int.emod_nonneg x (show n ≠ 0 by omega)
    go_enter Try.func30, Try.ntmps30
    go_wp2_with fail
    go_ret
    exact ⟨rfl, rfl⟩
  · have h3 : -n < x.tmod n := by
      have h4 := Int.tmod_lt_of_pos (-x) (show 0 < n by omega)
      rw [Int.neg_tmod] at h4
      omega
    have h5 : x.tmod n < n := Int.tmod_lt_of_pos x (by omega)
    clear hlt
    by_cases hr : x.tmod n < 0
    · have E := Lib.hid (H.out.1 hr)
      go_enter Try.func30, Try.ntmps30
      go_wp2_with fail
      go_ret
      exact ⟨Sc.ret_int E.out, rfl⟩
    · have E := Lib.hid (H.out.2 (by omega))
      go_enter Try.func30, Try.ntmps30
      go_wp2_with fail
      go_ret
      exact ⟨Sc.ret_int E.out, rfl⟩

end Go.Proofs.Yteceephenfmdoaa
