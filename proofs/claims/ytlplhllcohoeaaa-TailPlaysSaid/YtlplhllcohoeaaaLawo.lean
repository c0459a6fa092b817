/-
  The law TailOpens returns true: its cases one by one, and all.
-/
import Derived.Test.YtlplhllcohoeaaaOpens
namespace Go.Proofs.Ytlplhllcohoeaaa
open Go.RowKit
theorem RdB.lt {w : World} {B : Nat} {A : Option Addr} {l : List Int} (h : RdB w B A l) (a : Addr) (e : A = some a) (hne : l ≠ []) : a.block < B := by
  obtain ⟨v, hv⟩ := get_some l 0 (List.length_pos_iff.2 hne)
  obtain ⟨g, off, rfl, hb, _⟩ := h 0 v hv
  cases e
  exact hb
theorem RdB.take {w : World} {B : Nat} {A : Option Addr} {l : List Int} (h : RdB w B A l) (n : Nat) : RdB w B A (l.take n) := by
  intro k v hv
  rw [List.getElem?_take] at hv
  split at hv
  · exact h k v hv
  · cases hv
attribute [local go_sem ↓] append_told
/-- An append to a row of the call's own, told. -/
theorem told_own (W : World) (base : Nat) (A : Option Addr) (n c : Nat) (L : List Int) (hown : OwnB W base A n c L) (A2 : Option Addr) (m c2 : Nat) (K : List Int) (hK : K.length = m) (hr : RdB W W.heap.size A2 K) (hno : A2 = none → m = 0 ∧ c2 = 0) (hs : n + m ≤ 100000) (hbase : base ≤ W.heap.size) :
    ∃ A' c' w2, (appTold #[22, 22] 22 #[.slice A n c, .slice A2 m c2]).run Try.prog W = .ok (.slice A' (n + m) c') w2 ∧ OwnB w2 base A' (n + m) c' (L ++ K) ∧ Below base W w2 := by
  obtain ⟨i0, hi, hz0, hz1, hz2⟩ := info_parts info5
  cases A2 with
  | none =>
    obtain ⟨rfl, rfl⟩ := hno rfl
    obtain rfl := List.eq_nil_of_length_eq_zero hK
    have hrun := run_append_owned_none (P := Try.prog) (w := W) base 22 22 5 i0 1 Try.underlying22 hi (.slice A n c) n (bcells L) hown.2
    rw [List.append_nil]
    exact ⟨A, c, W, hrun, hown, Below.refl _ _⟩
  | some ad =>
    obtain ⟨v', w', hrun, h2, h3, _⟩ := run_append_own (P := Try.prog) W base 22 22 5 i0 _ 1 1 Try.underlying22 hi hz0 hz1 hz2 rfl (by decide) (.slice A n c) n (bcells L) hown.2 ad m c2 (bcells K) (by rw [bcells, List.length_map, hK, Nat.mul_one]) (hr.cells' ad rfl) (bcells_one _) (by unfold maxLen; omega) (by omega) hbase
    obtain ⟨⟨A'', c'', hv, ho⟩, hb, _, _, _⟩ := appB_step hown (Below.refl base W) hbase (Below.refl _ _) hK h2 h3
    rw [hv] at hrun
    exact ⟨A'', c'', w', hrun, ho, hb⟩
set_option maxRecDepth 40000 in
set_option maxHeartbeats 1000000 in
theorem opens_nil_bad (A : Option Addr) (lb cb : Nat) (n : Int) (A2 : Option Addr) (lm cm : Nat) (w : World) (b m : List Int) (hlen : b.length = lb) (hr : RdB w w.heap.size A b) (hno : A = none → lb = 0 ∧ cb = 0) (_hlc : lb ≤ cb) (hlen2 : m.length = lm) (hr2 : RdB w w.heap.size A2 m) (hno2 : A2 = none → lm = 0 ∧ cm = 0) (_hlc2 : lm ≤ cm) (_h5 : lb ≤ 5000) (h6 : lm ≤ 5000) (hz : lb = 0) (hc : n < 0 ∨ 16777216 < n) : Calls Try.prog 3 #[.slice A lb cb, .int .i64 n, .slice A2 lm cm] w fun e w' => e = .returned (.bool true) ∧ Below w.heap.size w w' := by
  obtain ⟨i0, hi, hz0, hz1, hz2⟩ := info_parts info5
  have H := Lib.hid hlen; have HR := Lib.hid hr; have HN := Lib.hid hno; have H2 := Lib.hid hlen2; have HR2 := Lib.hid hr2; have HN2 := Lib.hid hno2
  clear hlen hr hno hlen2 hr2 hno2
  go_enter Try.func3, Try.ntmps3
  go_wp2_with fail
  refine (New_any w 1048576 (by omega) (by omega) 0).mono ?_
  rintro e w1 ⟨db, mb, rfl, hd1, l1, l2, hb1⟩
  have HD1 := Lib.hid hd1
  have HB1 := Lib.hid hb1
  clear hd1 hb1
  go_wp2_with fail
  refine (awake_any w1).mono ?_
  rintro e w2 ⟨rfl, hb2⟩
  have HD2 := Lib.hid (HD1.out.up hb2)
  have HB2 := Lib.hid (below_up HB1.out hb2)
  have HSZ2 := Lib.hid (Nat.le_trans HB1.out.size hb2.size)
  clear hb2 HD1 HB1
  go_wp2_with fail
  have HL : Hid (Ld w.heap.size w2 db b) := Lib.hid ⟨mb, _, _, none, HD2.out, rfl, rfl, rfl, .inl ⟨rfl, List.eq_nil_of_length_eq_zero (by rw [H.out, hz])⟩, fun g hg => by rcases hg with rfl | rfl <;> omega⟩
  have HBk : Hid (Below w.heap.size w w2) := Lib.hid HB2.out
  clear HD2 HB2
  generalize w2 = W at *
  refine (Open_bad W ⟨db, 0, none⟩ n hc).mono ?_
  rintro e w9 ⟨rfl, rfl⟩
  rcases hc with hc | hc
  · go_wp2_with fail
    go_ret
    exact ⟨rfl, HBk.out⟩
  · go_wp2_with fail
    go_ret
    exact ⟨rfl, HBk.out⟩
set_option maxRecDepth 40000 in
set_option maxHeartbeats 1000000 in
theorem opens_nil_short (A : Option Addr) (lb cb : Nat) (n : Nat) (A2 : Option Addr) (lm cm : Nat) (w : World) (b m : List Int) (hlen : b.length = lb) (hr : RdB w w.heap.size A b) (hno : A = none → lb = 0 ∧ cb = 0) (_hlc : lb ≤ cb) (hlen2 : m.length = lm) (hr2 : RdB w w.heap.size A2 m) (hno2 : A2 = none → lm = 0 ∧ cm = 0) (_hlc2 : lm ≤ cm) (_h5 : lb ≤ 5000) (h6 : lm ≤ 5000) (hz : lb = 0) (hc : lb < n ∧ n ≤ 16777216) : Calls Try.prog 3 #[.slice A lb cb, .int .i64 n, .slice A2 lm cm] w fun e w' => e = .returned (.bool true) ∧ Below w.heap.size w w' := by
  obtain ⟨i0, hi, hz0, hz1, hz2⟩ := info_parts info5
  have H := Lib.hid hlen; have HR := Lib.hid hr; have HN := Lib.hid hno; have H2 := Lib.hid hlen2; have HR2 := Lib.hid hr2; have HN2 := Lib.hid hno2
  clear hlen hr hno hlen2 hr2 hno2
  go_enter Try.func3, Try.ntmps3
  go_wp2_with fail
  refine (New_any w 1048576 (by omega) (by omega) 0).mono ?_
  rintro e w1 ⟨db, mb, rfl, hd1, l1, l2, hb1⟩
  have HD1 := Lib.hid hd1
  have HB1 := Lib.hid hb1
  clear hd1 hb1
  go_wp2_with fail
  refine (awake_any w1).mono ?_
  rintro e w2 ⟨rfl, hb2⟩
  have HD2 := Lib.hid (HD1.out.up hb2)
  have HB2 := Lib.hid (below_up HB1.out hb2)
  have HSZ2 := Lib.hid (Nat.le_trans HB1.out.size hb2.size)
  clear hb2 HD1 HB1
  go_wp2_with fail
  have HL : Hid (Ld w.heap.size w2 db b) := Lib.hid ⟨mb, _, _, none, HD2.out, rfl, rfl, rfl, .inl ⟨rfl, List.eq_nil_of_length_eq_zero (by rw [H.out, hz])⟩, fun g hg => by rcases hg with rfl | rfl <;> omega⟩
  have HBk : Hid (Below w.heap.size w w2) := Lib.hid HB2.out
  clear HD2 HB2
  generalize w2 = W at *
  refine (HL.out.short n (by rw [H.out]; exact hc.1) hc.2).mono ?_
  rintro e w9 ⟨rfl, rfl⟩
  obtain ⟨hc1, hc2⟩ := hc
  go_wp2_with fail
  refine HL.out.size.mono ?_
  rintro e w9 ⟨⟨z, rfl, hzz⟩, rfl⟩
  rw [H.out] at hzz
  go_wp2_with fail
  go_ret
  exact ⟨rfl, HBk.out⟩
set_option maxRecDepth 40000 in
set_option maxHeartbeats 1000000 in
theorem opens_nil_ok (A : Option Addr) (lb cb : Nat) (n : Nat) (A2 : Option Addr) (lm cm : Nat) (w : World) (b m : List Int) (hlen : b.length = lb) (hr : RdB w w.heap.size A b) (hno : A = none → lb = 0 ∧ cb = 0) (hlc : lb ≤ cb) (hlen2 : m.length = lm) (hr2 : RdB w w.heap.size A2 m) (hno2 : A2 = none → lm = 0 ∧ cm = 0) (hlc2 : lm ≤ cm) (_h5 : lb ≤ 5000) (h6 : lm ≤ 5000) (hz : lb = 0) (hc : n ≤ lb) : Calls Try.prog 3 #[.slice A lb cb, .int .i64 n, .slice A2 lm cm] w fun e w' => e = .returned (.bool true) ∧ Below w.heap.size w w' := by
  obtain ⟨i0, hi, hz0, hz1, hz2⟩ := info_parts info5
  have H := Lib.hid hlen; have HR := Lib.hid hr; have HN := Lib.hid hno; have H2 := Lib.hid hlen2; have HR2 := Lib.hid hr2; have HN2 := Lib.hid hno2
  clear hlen hr hno hlen2 hr2 hno2
  go_enter Try.func3, Try.ntmps3
  go_wp2_with fail
  refine (New_any w 1048576 (by omega) (by omega) 0).mono ?_
  rintro e w1 ⟨db, mb, rfl, hd1, l1, l2, hb1⟩
  have HD1 := Lib.hid hd1
  have HB1 := Lib.hid hb1
  clear hd1 hb1
  go_wp2_with fail
  refine (awake_any w1).mono ?_
  rintro e w2 ⟨rfl, hb2⟩
  have HD2 := Lib.hid (HD1.out.up hb2)
  have HB2 := Lib.hid (below_up HB1.out hb2)
  have HSZ2 := Lib.hid (Nat.le_trans HB1.out.size hb2.size)
  clear hb2 HD1 HB1
  go_wp2_with fail
  have HL : Hid (Ld w.heap.size w2 db b) := Lib.hid ⟨mb, _, _, none, HD2.out, rfl, rfl, rfl, .inl ⟨rfl, List.eq_nil_of_length_eq_zero (by rw [H.out, hz])⟩, fun g hg => by rcases hg with rfl | rfl <;> omega⟩
  have HBk : Hid (Below w.heap.size w w2) := Lib.hid HB2.out
  clear HD2 HB2
  generalize w2 = W at *
  refine (HL.out.open n (by rw [H.out]; exact hc) (by omega) HBk.out.size).mono ?_
  rintro e w4 ⟨⟨tb, rfl, htb, ht4, hs4⟩, hb4⟩
  have HT4 := Lib.hid ht4
  have HS4 := Lib.hid hs4
  have HB4 := Lib.hid (HBk.out.trans hb4)
  clear ht4 hs4 hb4 HL HBk
  go_wp2_with fail
  refine (Len_any w4 n HT4.out).mono ?_
  rintro e w9 ⟨rfl, rfl⟩
  go_wp2_with fail
  refine HS4.out.size.mono ?_
  rintro e w9 ⟨⟨z, rfl, hzz⟩, rfl⟩
  have htk : (b.take n).length = n := by rw [List.length_take, H.out]; omega
  have HTK := Lib.hid htk
  rw [htk] at hzz
  clear htk
  go_wp2_with fail
  all_goals
    refine (HAppend w.heap.size w4 db tb (b.take n) m 3 n lm cm A2 HS4.out HT4.out HTK.out H2.out hlc2 (fun e => (HN2.out e).1) (HR2.out.up HB4.out) (fun a e hne => HR2.out.lt a e hne) HB4.out.size htb (by omega) (by omega)).mono ?_
    rintro e w5 ⟨rfl, hs5, ht5, hb5⟩
    have HT5 := Lib.hid ht5
    have HS5 := Lib.hid hs5
    have HB5 := Lib.hid (HB4.out.trans hb5)
    clear ht5 hs5 hb5 HT4 HS4 HB4
    have hR := HRead w.heap.size w5 db tb (b.take n ++ m) (3 + lm + 2) (n + lm) HS5.out HT5.out (by rw [List.length_append, HTK.out, H2.out]) (by omega)
    rw [Int.natCast_add] at hR
    have HRD := Lib.hid hR
    clear hR
    go_wp2_with fail
    refine HRD.out.mono ?_
    rintro e w6 ⟨⟨A6, c6, rfl, hr6⟩, hb6⟩
    have HR6 := Lib.hid hr6
    have HB6 := Lib.hid (below_up HB5.out hb6)
    clear hr6 hb6 HRD HT5 HS5
    go_wp2_with fail
    refine (Copy_any A n cb w6 (b.take n) HTK.out ((HR.out.up HB6.out).take n) (by omega)).mono ?_
    rintro e w7 ⟨⟨A7, c7, rfl, ho7⟩, hb7⟩
    have HO7 := Lib.hid ho7
    have HB67 := Lib.hid hb7
    have HB7 := Lib.hid (below_up HB6.out hb7)
    have hsz7 : w6.heap.size ≤ w7.heap.size := hb7.size
    clear ho7 hb7
    obtain ⟨A8, c8, w8, hrun, hown8, hb8⟩ := told_own w7 w6.heap.size A7 n c7 (b.take n) HO7.out A2 lm cm m H2.out (HR2.out.up HB7.out) HN2.out (by omega) hsz7
    have hb8 : Below w6.heap.size w6 w8 := HB67.out.trans hb8
    have HO8 := Lib.hid hown8
    have HB8 := Lib.hid (below_up HB6.out hb8)
    have HR8 := Lib.hid (HR6.out.up hb8)
    clear hown8 hb8 HO7 HB67 HB7
    go_wp2_with fail
    clear hrun
    refine (Same_true A6 (n + lm) c6 A8 (n + lm) c8 w8 (b.take n ++ m) (by rw [List.length_append, HTK.out, H2.out]) HR8.out (by omega) rfl HO8.out.rd).mono ?_
    rintro e w9 ⟨rfl, hb9⟩
    have HB9 := Lib.hid (below_up HB8.out hb9)
    clear hb9
    go_wp2_with fail
    go_ret
    exact ⟨rfl, HB9.out⟩
set_option maxRecDepth 40000 in
set_option maxHeartbeats 1000000 in
theorem opens_cons_bad (A : Option Addr) (lb cb : Nat) (n : Int) (A2 : Option Addr) (lm cm : Nat) (w : World) (b m : List Int) (hlen : b.length = lb) (hr : RdB w w.heap.size A b) (hno : A = none → lb = 0 ∧ cb = 0) (_hlc : lb ≤ cb) (hlen2 : m.length = lm) (hr2 : RdB w w.heap.size A2 m) (hno2 : A2 = none → lm = 0 ∧ cm = 0) (_hlc2 : lm ≤ cm) (h5 : lb ≤ 5000) (h6 : lm ≤ 5000) (hz : 0 < lb) (hc : n < 0 ∨ 16777216 < n) : Calls Try.prog 3 #[.slice A lb cb, .int .i64 n, .slice A2 lm cm] w fun e w' => e = .returned (.bool true) ∧ Below w.heap.size w w' := by
  obtain ⟨i0, hi, hz0, hz1, hz2⟩ := info_parts info5
  have H := Lib.hid hlen; have HR := Lib.hid hr; have HN := Lib.hid hno; have H2 := Lib.hid hlen2; have HR2 := Lib.hid hr2; have HN2 := Lib.hid hno2
  clear hlen hr hno hlen2 hr2 hno2
  go_enter Try.func3, Try.ntmps3
  go_wp2_with fail
  refine (New_any w 1048576 (by omega) (by omega) 0).mono ?_
  rintro e w1 ⟨db, mb, rfl, hd1, l1, l2, hb1⟩
  have HD1 := Lib.hid hd1
  have HB1 := Lib.hid hb1
  clear hd1 hb1
  go_wp2_with fail
  refine (awake_any w1).mono ?_
  rintro e w2 ⟨rfl, hb2⟩
  have HD2 := Lib.hid (HD1.out.up hb2)
  have HB2 := Lib.hid (below_up HB1.out hb2)
  have HSZ2 := Lib.hid (Nat.le_trans HB1.out.size hb2.size)
  clear hb2 HD1 HB1
  go_wp2_with fail
  refine (Load_new w2 HD2.out A lb cb b H.out (HR.out.up HB2.out) HN.out (fun a e hne hx => by have := HR.out.lt a e hne; rcases hx with hx | hx <;> omega) (by omega) (by show (lb : Int) ≤ 1048576; omega)).mono ?_
  rintro e W ⟨rfl, fb, S', hd3, hf3⟩
  have HL : Hid (Ld w.heap.size W db b) := Lib.hid ⟨mb, _, S', _, hd3, rfl, rfl, rfl, .inr ⟨fb, rfl, rfl⟩, fun g hg => by
    have hsz := HSZ2.out
    by_cases hlt : g < w2.heap.size
    · by_cases hS : (g = mb ∨ g = db)
      · rcases hS with rfl | rfl <;> omega
      · exact absurd hg (hf3.beside g hlt hS).2
    · omega⟩
  have HBk : Hid (Below w.heap.size w W) := Lib.hid (HB2.out.trans (hf3.below HSZ2.out (fun g hg hS => by rcases hS with rfl | rfl <;> omega)))
  clear HD2 HB2 hd3 hf3
  go_wp2_with fail
  refine (Open_bad W ⟨db, 0, none⟩ n hc).mono ?_
  rintro e w9 ⟨rfl, rfl⟩
  rcases hc with hc | hc
  · go_wp2_with fail
    go_ret
    exact ⟨rfl, HBk.out⟩
  · go_wp2_with fail
    go_ret
    exact ⟨rfl, HBk.out⟩
set_option maxRecDepth 40000 in
set_option maxHeartbeats 1000000 in
theorem opens_cons_short (A : Option Addr) (lb cb : Nat) (n : Nat) (A2 : Option Addr) (lm cm : Nat) (w : World) (b m : List Int) (hlen : b.length = lb) (hr : RdB w w.heap.size A b) (hno : A = none → lb = 0 ∧ cb = 0) (_hlc : lb ≤ cb) (hlen2 : m.length = lm) (hr2 : RdB w w.heap.size A2 m) (hno2 : A2 = none → lm = 0 ∧ cm = 0) (_hlc2 : lm ≤ cm) (h5 : lb ≤ 5000) (h6 : lm ≤ 5000) (hz : 0 < lb) (hc : lb < n ∧ n ≤ 16777216) : Calls Try.prog 3 #[.slice A lb cb, .int .i64 n, .slice A2 lm cm] w fun e w' => e = .returned (.bool true) ∧ Below w.heap.size w w' := by
  obtain ⟨i0, hi, hz0, hz1, hz2⟩ := info_parts info5
  have H := Lib.hid hlen; have HR := Lib.hid hr; have HN := Lib.hid hno; have H2 := Lib.hid hlen2; have HR2 := Lib.hid hr2; have HN2 := Lib.hid hno2
  clear hlen hr hno hlen2 hr2 hno2
  go_enter Try.func3, Try.ntmps3
  go_wp2_with fail
  refine (New_any w 1048576 (by omega) (by omega) 0).mono ?_
  rintro e w1 ⟨db, mb, rfl, hd1, l1, l2, hb1⟩
  have HD1 := Lib.hid hd1
  have HB1 := Lib.hid hb1
  clear hd1 hb1
  go_wp2_with fail
  refine (awake_any w1).mono ?_
  rintro e w2 ⟨rfl, hb2⟩
  have HD2 := Lib.hid (HD1.out.up hb2)
  have HB2 := Lib.hid (below_up HB1.out hb2)
  have HSZ2 := Lib.hid (Nat.le_trans HB1.out.size hb2.size)
  clear hb2 HD1 HB1
  go_wp2_with fail
  refine (Load_new w2 HD2.out A lb cb b H.out (HR.out.up HB2.out) HN.out (fun a e hne hx => by have := HR.out.lt a e hne; rcases hx with hx | hx <;> omega) (by omega) (by show (lb : Int) ≤ 1048576; omega)).mono ?_
  rintro e W ⟨rfl, fb, S', hd3, hf3⟩
  have HL : Hid (Ld w.heap.size W db b) := Lib.hid ⟨mb, _, S', _, hd3, rfl, rfl, rfl, .inr ⟨fb, rfl, rfl⟩, fun g hg => by
    have hsz := HSZ2.out
    by_cases hlt : g < w2.heap.size
    · by_cases hS : (g = mb ∨ g = db)
      · rcases hS with rfl | rfl <;> omega
      · exact absurd hg (hf3.beside g hlt hS).2
    · omega⟩
  have HBk : Hid (Below w.heap.size w W) := Lib.hid (HB2.out.trans (hf3.below HSZ2.out (fun g hg hS => by rcases hS with rfl | rfl <;> omega)))
  clear HD2 HB2 hd3 hf3
  go_wp2_with fail
  refine (HL.out.short n (by rw [H.out]; exact hc.1) hc.2).mono ?_
  rintro e w9 ⟨rfl, rfl⟩
  obtain ⟨hc1, hc2⟩ := hc
  go_wp2_with fail
  refine HL.out.size.mono ?_
  rintro e w9 ⟨⟨z, rfl, hzz⟩, rfl⟩
  rw [H.out] at hzz
  obtain rfl : z = (lb : Int) := by omega
  go_wp2_with fail
  go_ret
  exact ⟨rfl, HBk.out⟩
set_option maxRecDepth 40000 in
set_option maxHeartbeats 1000000 in
theorem opens_cons_ok (A : Option Addr) (lb cb : Nat) (n : Nat) (A2 : Option Addr) (lm cm : Nat) (w : World) (b m : List Int) (hlen : b.length = lb) (hr : RdB w w.heap.size A b) (hno : A = none → lb = 0 ∧ cb = 0) (hlc : lb ≤ cb) (hlen2 : m.length = lm) (hr2 : RdB w w.heap.size A2 m) (hno2 : A2 = none → lm = 0 ∧ cm = 0) (hlc2 : lm ≤ cm) (h5 : lb ≤ 5000) (h6 : lm ≤ 5000) (hz : 0 < lb) (hc : n ≤ lb) : Calls Try.prog 3 #[.slice A lb cb, .int .i64 n, .slice A2 lm cm] w fun e w' => e = .returned (.bool true) ∧ Below w.heap.size w w' := by
  obtain ⟨i0, hi, hz0, hz1, hz2⟩ := info_parts info5
  have H := Lib.hid hlen; have HR := Lib.hid hr; have HN := Lib.hid hno; have H2 := Lib.hid hlen2; have HR2 := Lib.hid hr2; have HN2 := Lib.hid hno2
  clear hlen hr hno hlen2 hr2 hno2
  go_enter Try.func3, Try.ntmps3
  go_wp2_with fail
  refine (New_any w 1048576 (by omega) (by omega) 0).mono ?_
  rintro e w1 ⟨db, mb, rfl, hd1, l1, l2, hb1⟩
  have HD1 := Lib.hid hd1
  have HB1 := Lib.hid hb1
  clear hd1 hb1
  go_wp2_with fail
  refine (awake_any w1).mono ?_
  rintro e w2 ⟨rfl, hb2⟩
  have HD2 := Lib.hid (HD1.out.up hb2)
  have HB2 := Lib.hid (below_up HB1.out hb2)
  have HSZ2 := Lib.hid (Nat.le_trans HB1.out.size hb2.size)
  clear hb2 HD1 HB1
  go_wp2_with fail
  refine (Load_new w2 HD2.out A lb cb b H.out (HR.out.up HB2.out) HN.out (fun a e hne hx => by have := HR.out.lt a e hne; rcases hx with hx | hx <;> omega) (by omega) (by show (lb : Int) ≤ 1048576; omega)).mono ?_
  rintro e W ⟨rfl, fb, S', hd3, hf3⟩
  have HL : Hid (Ld w.heap.size W db b) := Lib.hid ⟨mb, _, S', _, hd3, rfl, rfl, rfl, .inr ⟨fb, rfl, rfl⟩, fun g hg => by
    have hsz := HSZ2.out
    by_cases hlt : g < w2.heap.size
    · by_cases hS : (g = mb ∨ g = db)
      · rcases hS with rfl | rfl <;> omega
      · exact absurd hg (hf3.beside g hlt hS).2
    · omega⟩
  have HBk : Hid (Below w.heap.size w W) := Lib.hid (HB2.out.trans (hf3.below HSZ2.out (fun g hg hS => by rcases hS with rfl | rfl <;> omega)))
  clear HD2 HB2 hd3 hf3
  go_wp2_with fail
  refine (HL.out.open n (by rw [H.out]; exact hc) (by omega) HBk.out.size).mono ?_
  rintro e w4 ⟨⟨tb, rfl, htb, ht4, hs4⟩, hb4⟩
  have HT4 := Lib.hid ht4
  have HS4 := Lib.hid hs4
  have HB4 := Lib.hid (HBk.out.trans hb4)
  clear ht4 hs4 hb4 HL HBk
  go_wp2_with fail
  refine (Len_any w4 n HT4.out).mono ?_
  rintro e w9 ⟨rfl, rfl⟩
  go_wp2_with fail
  refine HS4.out.size.mono ?_
  rintro e w9 ⟨⟨z, rfl, hzz⟩, rfl⟩
  have htk : (b.take n).length = n := by rw [List.length_take, H.out]; omega
  have HTK := Lib.hid htk
  rw [htk] at hzz
  clear htk
  go_wp2_with fail
  all_goals
    refine (HAppend w.heap.size w4 db tb (b.take n) m 3 n lm cm A2 HS4.out HT4.out HTK.out H2.out hlc2 (fun e => (HN2.out e).1) (HR2.out.up HB4.out) (fun a e hne => HR2.out.lt a e hne) HB4.out.size htb (by omega) (by omega)).mono ?_
    rintro e w5 ⟨rfl, hs5, ht5, hb5⟩
    have HT5 := Lib.hid ht5
    have HS5 := Lib.hid hs5
    have HB5 := Lib.hid (HB4.out.trans hb5)
    clear ht5 hs5 hb5 HT4 HS4 HB4
    have hR := HRead w.heap.size w5 db tb (b.take n ++ m) (3 + lm + 2) (n + lm) HS5.out HT5.out (by rw [List.length_append, HTK.out, H2.out]) (by omega)
    rw [Int.natCast_add] at hR
    have HRD := Lib.hid hR
    clear hR
    go_wp2_with fail
    refine HRD.out.mono ?_
    rintro e w6 ⟨⟨A6, c6, rfl, hr6⟩, hb6⟩
    have HR6 := Lib.hid hr6
    have HB6 := Lib.hid (below_up HB5.out hb6)
    clear hr6 hb6 HRD HT5 HS5
    go_wp2_with fail
    refine (Copy_any A n cb w6 (b.take n) HTK.out ((HR.out.up HB6.out).take n) (by omega)).mono ?_
    rintro e w7 ⟨⟨A7, c7, rfl, ho7⟩, hb7⟩
    have HO7 := Lib.hid ho7
    have HB67 := Lib.hid hb7
    have HB7 := Lib.hid (below_up HB6.out hb7)
    have hsz7 : w6.heap.size ≤ w7.heap.size := hb7.size
    clear ho7 hb7
    obtain ⟨A8, c8, w8, hrun, hown8, hb8⟩ := told_own w7 w6.heap.size A7 n c7 (b.take n) HO7.out A2 lm cm m H2.out (HR2.out.up HB7.out) HN2.out (by omega) hsz7
    have hb8 : Below w6.heap.size w6 w8 := HB67.out.trans hb8
    have HO8 := Lib.hid hown8
    have HB8 := Lib.hid (below_up HB6.out hb8)
    have HR8 := Lib.hid (HR6.out.up hb8)
    clear hown8 hb8 HO7 HB67 HB7
    go_wp2_with fail
    clear hrun
    refine (Same_true A6 (n + lm) c6 A8 (n + lm) c8 w8 (b.take n ++ m) (by rw [List.length_append, HTK.out, H2.out]) HR8.out (by omega) rfl HO8.out.rd).mono ?_
    rintro e w9 ⟨rfl, hb9⟩
    have HB9 := Lib.hid (below_up HB8.out hb9)
    clear hb9
    go_wp2_with fail
    go_ret
    exact ⟨rfl, HB9.out⟩
set_option maxRecDepth 40000 in
set_option maxHeartbeats 1000000 in
theorem opens_left (A : Option Addr) (lb cb : Nat) (n : Int) (A2 : Option Addr) (lm cm : Nat) (w : World) (b m : List Int) (_hlen : b.length = lb) (_hr : RdB w w.heap.size A b) (hno : A = none → lb = 0 ∧ cb = 0) (_hlc : lb ≤ cb) (_hlen2 : m.length = lm) (_hr2 : RdB w w.heap.size A2 m) (hno2 : A2 = none → lm = 0 ∧ cm = 0) (_hlc2 : lm ≤ cm) (hc : 5000 < lb) : Calls Try.prog 3 #[.slice A lb cb, .int .i64 n, .slice A2 lm cm] w fun e w' => e = .returned (.bool true) ∧ Below w.heap.size w w' := by
  obtain ⟨i0, hi, hz0, hz1, hz2⟩ := info_parts info5
  have HN := Lib.hid hno; have HN2 := Lib.hid hno2
  clear _hlen _hr hno _hlen2 _hr2 hno2
  go_enter Try.func3, Try.ntmps3
  go_wp2_with fail
  refine (New_any w 1048576 (by omega) (by omega) 0).mono ?_
  rintro e w1 ⟨db, mb, rfl, hd1, l1, l2, hb1⟩
  have HB1 := Lib.hid hb1
  clear hd1 hb1
  go_wp2_with fail
  refine (awake_any w1).mono ?_
  rintro e w2 ⟨rfl, hb2⟩
  have HB2 := Lib.hid (below_up HB1.out hb2)
  clear hb2 HB1
  go_wp2_with fail
  refine (awake_any w2).mono ?_
  rintro e w3 ⟨rfl, hb3⟩
  have HB3 := Lib.hid (below_up HB2.out hb3)
  clear hb3 HB2
  go_wp2_with fail
  go_ret
  exact ⟨rfl, HB3.out⟩
set_option maxRecDepth 40000 in
set_option maxHeartbeats 1000000 in
theorem opens_right (A : Option Addr) (lb cb : Nat) (n : Int) (A2 : Option Addr) (lm cm : Nat) (w : World) (b m : List Int) (_hlen : b.length = lb) (_hr : RdB w w.heap.size A b) (hno : A = none → lb = 0 ∧ cb = 0) (_hlc : lb ≤ cb) (_hlen2 : m.length = lm) (_hr2 : RdB w w.heap.size A2 m) (hno2 : A2 = none → lm = 0 ∧ cm = 0) (_hlc2 : lm ≤ cm) (hc : lb ≤ 5000 ∧ 5000 < lm) : Calls Try.prog 3 #[.slice A lb cb, .int .i64 n, .slice A2 lm cm] w fun e w' => e = .returned (.bool true) ∧ Below w.heap.size w w' := by
  obtain ⟨hc1, hc2⟩ := hc
  obtain ⟨i0, hi, hz0, hz1, hz2⟩ := info_parts info5
  have HN := Lib.hid hno; have HN2 := Lib.hid hno2
  clear _hlen _hr hno _hlen2 _hr2 hno2
  go_enter Try.func3, Try.ntmps3
  go_wp2_with fail
  refine (New_any w 1048576 (by omega) (by omega) 0).mono ?_
  rintro e w1 ⟨db, mb, rfl, hd1, l1, l2, hb1⟩
  have HB1 := Lib.hid hb1
  clear hd1 hb1
  go_wp2_with fail
  refine (awake_any w1).mono ?_
  rintro e w2 ⟨rfl, hb2⟩
  have HB2 := Lib.hid (below_up HB1.out hb2)
  clear hb2 HB1
  go_wp2_with fail
  refine (awake_any w2).mono ?_
  rintro e w3 ⟨rfl, hb3⟩
  have HB3 := Lib.hid (below_up HB2.out hb3)
  clear hb3 HB2
  go_wp2_with fail
  go_ret
  exact ⟨rfl, HB3.out⟩
theorem opens_any (A : Option Addr) (lb cb : Nat) (n : Int) (A2 : Option Addr) (lm cm : Nat) (w : World) (b m : List Int) (hlen : b.length = lb) (hr : RdB w w.heap.size A b) (hno : A = none → lb = 0 ∧ cb = 0) (hlc : lb ≤ cb) (hlen2 : m.length = lm) (hr2 : RdB w w.heap.size A2 m) (hno2 : A2 = none → lm = 0 ∧ cm = 0) (hlc2 : lm ≤ cm)  : Calls Try.prog 3 #[.slice A lb cb, .int .i64 n, .slice A2 lm cm] w fun e w' => e = .returned (.bool true) ∧ Below w.heap.size w w' := by
  by_cases h5 : lb ≤ 5000
  · by_cases h6 : lm ≤ 5000
    · by_cases hbad : n < 0 ∨ 16777216 < n
      · by_cases hz : lb = 0
        · exact opens_nil_bad A lb cb n A2 lm cm w b m hlen hr hno hlc hlen2 hr2 hno2 hlc2 h5 h6 hz hbad
        · exact opens_cons_bad A lb cb n A2 lm cm w b m hlen hr hno hlc hlen2 hr2 hno2 hlc2 h5 h6 (by omega) hbad
      · obtain ⟨k, rfl⟩ : ∃ k : Nat, n = k := ⟨n.toNat, by omega⟩
        by_cases hs : lb < k
        · by_cases hz : lb = 0
          · exact opens_nil_short A lb cb k A2 lm cm w b m hlen hr hno hlc hlen2 hr2 hno2 hlc2 h5 h6 hz ⟨hs, by omega⟩
          · exact opens_cons_short A lb cb k A2 lm cm w b m hlen hr hno hlc hlen2 hr2 hno2 hlc2 h5 h6 (by omega) ⟨hs, by omega⟩
        · by_cases hz : lb = 0
          · exact opens_nil_ok A lb cb k A2 lm cm w b m hlen hr hno hlc hlen2 hr2 hno2 hlc2 h5 h6 hz (by omega)
          · exact opens_cons_ok A lb cb k A2 lm cm w b m hlen hr hno hlc hlen2 hr2 hno2 hlc2 h5 h6 (by omega) (by omega)
    · exact opens_right A lb cb n A2 lm cm w b m hlen hr hno hlc hlen2 hr2 hno2 hlc2 ⟨h5, by omega⟩
  · exact opens_left A lb cb n A2 lm cm w b m hlen hr hno hlc hlen2 hr2 hno2 hlc2 (by omega)
end Go.Proofs.Ytlplhllcohoeaaa
