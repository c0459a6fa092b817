/-
  That the law EolAsks returns true, of bytes of at most 1048576.
-/
import Derived.Test.YtnfipflodhnbhaaWalkd
namespace Go.Proofs.Ytnfipflodhnbhaa
open Go.RowKit
/-- What stays readable through the law. -/
structure Kp (w : World) (A C E : Option Addr) (l : List Int) : Prop where
  a : RdB w w.heap.size A l
  c : RdB w w.heap.size C (l ++ mk3)
  e : RdI w w.heap.size E (endsI l)
theorem Kp.up {w w' : World} {A C E : Option Addr} {l : List Int} (h : Kp w A C E l) (hb : Below w.heap.size w w') : Kp w' A C E l := ⟨h.a.up hb, h.c.up hb, h.e.up hb⟩
set_option maxRecDepth 20000 in
set_option maxHeartbeats 1000000 in
theorem asks_neg (A : Option Addr) (len cap : Nat) (k : Int) (w : World) (l : List Int) (hlen : l.length = len) (hB : Byt l) (hr : RdB w w.heap.size A l) (hm : len ≤ 1048576) (hk : k < 0) (hk0 : -9223372036854775808 ≤ k) :
    Calls Try.prog 5 #[.slice A len cap, .int .i64 k] w fun e w' => e = .returned (.bool true) ∧ Below w.heap.size w w' := by
  have hcl := cnt_le l
  rw [hlen] at hcl
  have H := Lib.hid hlen; have HB := Lib.hid hB; have HR := Lib.hid hr
  clear hlen hB hr
  go_enter Try.func5, Try.ntmps5
  go_wp2_with fail
  refine (Lent_any A len cap _ l H.out HR.out (by omega)).mono ?_
  rintro e w1 ⟨⟨g, c, rfl, hown⟩, hb⟩
  have HC := Lib.hid hown.rd
  have hcap := hown.cap
  unfold maxLen at hcap
  obtain ⟨hcap1, hcap2⟩ := hcap
  have HA := Lib.hid (HR.out.up hb)
  have HB1 := Lib.hid hb
  clear hown hb
  go_wp2_with fail
  refine (RefEnds_any A len cap _ l H.out HA.out (by omega)).mono ?_
  rintro e w2 ⟨⟨E, ec, rfl, hown⟩, hb⟩
  have HK := Lib.hid (Kp.mk (HA.out.up hb) (HC.out.up hb) hown.rd)
  have HB2 := Lib.hid (below_up HB1.out hb)
  clear hown hb HA HC HB1
  go_wp2_with fail
  refine (Nth_neg (some ⟨g, 0, none⟩) len c k _ (by omega)).mono ?_
  rintro e w2' ⟨rfl, rfl⟩
  go_wp2_with fail
  refine (awake_any _).mono ?_
  rintro e w3 ⟨rfl, hb⟩
  have HK3 := Lib.hid (HK.out.up hb)
  have HB3 := Lib.hid (below_up HB2.out hb)
  clear hb HK HB2
  go_wp2_with fail
  refine (Count_any (some ⟨g, 0, none⟩) len c _ l H.out HB.out HK3.out.c.left).mono ?_
  rintro e w4 ⟨rfl, hb⟩
  have HK4 := Lib.hid (HK3.out.up hb)
  have HB4 := Lib.hid (below_up HB3.out hb)
  clear hb HK3 HB3
  go_wp2_with fail
  refine (Ends_any (some ⟨g, 0, none⟩) len c _ l H.out HK4.out.c.left (by omega)).mono ?_
  rintro e w5 ⟨⟨E2, ec2, rfl, hown⟩, hb⟩
  have HE := Lib.hid hown.rd
  have HK5 := Lib.hid (HK4.out.up hb)
  have HB5 := Lib.hid (below_up HB4.out hb)
  clear hown hb HK4 HB4
  go_wp2_with fail
  refine (Ints_true E2 (cnt l) ec2 E (cnt l) ec _ (endsI l) (endsI_len l) HE.out (by omega) rfl HK5.out.e).mono ?_
  rintro e w6 ⟨rfl, hb⟩
  have HK6 := Lib.hid (HK5.out.up hb)
  have HB6 := Lib.hid (below_up HB5.out hb)
  clear hb HK5 HB5 HE

  go_wp2_with fail
  refine (Line_no (some ⟨g, 0, none⟩) len c k _ (by omega)).mono ?_
  rintro e w7 ⟨rfl, rfl⟩
  have HK7 := HK6
  have HB7 := HB6
  clear HK6 HB6
  go_wp2_with fail
  refine (Start_any (some ⟨g, 0, none⟩) len c k _ l H.out HK7.out.c.left (by omega) (by omega) (by omega)).mono ?_
  rintro e w8 ⟨⟨v, hv, hS⟩, rfl⟩
  have HV := Lib.hid hv
  clear hv
  rcases hS with ⟨hv0, rfl⟩ | ⟨rfl, rfl⟩
  · have fm : max v 0 = v := by omega
    go_wp2_with fail
    refine (RefStart_any A len cap k _ l H.out HK7.out.a (by omega) (by omega) (by omega)).mono ?_
    rintro e w9 ⟨⟨v2, hv2, rfl⟩, rfl⟩
    obtain rfl := HV.out.uniq hv2
    clear hv2
    go_wp2_with fail
    refine (Kept_any (some ⟨g, 0, none⟩) len c A cap _ l H.out HK7.out.c hcap1 (by omega) HK7.out.a).mono ?_
    rintro e w10 ⟨rfl, hb⟩
    have HB8 := Lib.hid (below_up HB7.out hb)
    clear hb
    go_wp2_with fail
    go_ret
    exact ⟨rfl, HB8.out⟩
  · have fm : max (-1 : Int) 0 = 0 := by decide
    go_wp2_with fail
    refine (RefStart_any A len cap k _ l H.out HK7.out.a (by omega) (by omega) (by omega)).mono ?_
    rintro e w9 ⟨⟨v2, hv2, rfl⟩, rfl⟩
    obtain rfl := HV.out.uniq hv2
    clear hv2
    go_wp2_with fail
    refine (Kept_any (some ⟨g, 0, none⟩) len c A cap _ l H.out HK7.out.c hcap1 (by omega) HK7.out.a).mono ?_
    rintro e w10 ⟨rfl, hb⟩
    have HB8 := Lib.hid (below_up HB7.out hb)
    clear hb
    go_wp2_with fail
    go_ret
    exact ⟨rfl, HB8.out⟩
set_option maxRecDepth 20000 in
set_option maxHeartbeats 1000000 in
theorem asks_there (A : Option Addr) (len cap : Nat) (n : Nat) (w : World) (l : List Int) (hlen : l.length = len) (hB : Byt l) (hr : RdB w w.heap.size A l) (hm : len ≤ 1048576) (hk : n < cnt l) :
    Calls Try.prog 5 #[.slice A len cap, .int .i64 n] w fun e w' => e = .returned (.bool true) ∧ Below w.heap.size w w' := by
  have hcl := cnt_le l
  rw [hlen] at hcl
  have H := Lib.hid hlen; have HB := Lib.hid hB; have HR := Lib.hid hr
  clear hlen hB hr
  go_enter Try.func5, Try.ntmps5
  go_wp2_with fail
  refine (Lent_any A len cap _ l H.out HR.out (by omega)).mono ?_
  rintro e w1 ⟨⟨g, c, rfl, hown⟩, hb⟩
  have HC := Lib.hid hown.rd
  have hcap := hown.cap
  unfold maxLen at hcap
  obtain ⟨hcap1, hcap2⟩ := hcap
  have HA := Lib.hid (HR.out.up hb)
  have HB1 := Lib.hid hb
  clear hown hb
  go_wp2_with fail
  refine (RefEnds_any A len cap _ l H.out HA.out (by omega)).mono ?_
  rintro e w2 ⟨⟨E, ec, rfl, hown⟩, hb⟩
  have HK := Lib.hid (Kp.mk (HA.out.up hb) (HC.out.up hb) hown.rd)
  have HB2 := Lib.hid (below_up HB1.out hb)
  clear hown hb HA HC HB1
  go_wp2_with fail
  refine (Nth_yes (some ⟨g, 0, none⟩) len c n _ l H.out HK.out.c.left (by omega) hk).mono ?_
  rintro e w2' ⟨⟨p, hp, rfl⟩, rfl⟩
  have HP := Lib.hid hp
  clear hp
  go_wp2_with fail
  refine (awake_any _).mono ?_
  rintro e w3 ⟨rfl, hb⟩
  have HK3 := Lib.hid (HK.out.up hb)
  have HB3 := Lib.hid (below_up HB2.out hb)
  clear hb HK HB2
  go_wp2_with fail
  refine (Count_any (some ⟨g, 0, none⟩) len c _ l H.out HB.out HK3.out.c.left).mono ?_
  rintro e w4 ⟨rfl, hb⟩
  have HK4 := Lib.hid (HK3.out.up hb)
  have HB4 := Lib.hid (below_up HB3.out hb)
  clear hb HK3 HB3
  go_wp2_with fail
  refine (Ends_any (some ⟨g, 0, none⟩) len c _ l H.out HK4.out.c.left (by omega)).mono ?_
  rintro e w5 ⟨⟨E2, ec2, rfl, hown⟩, hb⟩
  have HE := Lib.hid hown.rd
  have HK5 := Lib.hid (HK4.out.up hb)
  have HB5 := Lib.hid (below_up HB4.out hb)
  clear hown hb HK4 HB4
  go_wp2_with fail
  refine (Ints_true E2 (cnt l) ec2 E (cnt l) ec _ (endsI l) (endsI_len l) HE.out (by omega) rfl HK5.out.e).mono ?_
  rintro e w6 ⟨rfl, hb⟩
  have HK6 := Lib.hid (HK5.out.up hb)
  have HB6 := Lib.hid (below_up HB5.out hb)
  clear hb HK5 HB5 HE
  obtain ⟨b9, off9, rfl, _, c9⟩ := HK6.out.e n p (endsI_get HP.out)
  go_wp2_with fail
  refine (Line_yes (some ⟨g, 0, none⟩) len c n _ l H.out HB.out HK6.out.c.left (by omega) (by omega) (by omega)).mono ?_
  rintro e w7' ⟨rfl, hb⟩
  have HK7' := Lib.hid (HK6.out.up hb)
  have HB7' := Lib.hid (below_up HB6.out hb)
  clear hb HK6 HB6
  go_wp2_with fail
  refine (RefLine_any A len cap n _ l H.out HK7'.out.a (by omega) (by omega)).mono ?_
  rintro e w7 ⟨rfl, rfl⟩
  have HK7 := HK7'
  have HB7 := HB7'
  clear HK7' HB7'
  go_wp2_with fail
  refine (Start_any (some ⟨g, 0, none⟩) len c n _ l H.out HK7.out.c.left (by omega) (by omega) (by omega)).mono ?_
  rintro e w8 ⟨⟨v, hv, hS⟩, rfl⟩
  have HV := Lib.hid hv
  clear hv
  rcases hS with ⟨hv0, rfl⟩ | ⟨rfl, rfl⟩
  · have fm : max v 0 = v := by omega
    go_wp2_with fail
    refine (RefStart_any A len cap n _ l H.out HK7.out.a (by omega) (by omega) (by omega)).mono ?_
    rintro e w9 ⟨⟨v2, hv2, rfl⟩, rfl⟩
    obtain rfl := HV.out.uniq hv2
    clear hv2
    go_wp2_with fail
    refine (Kept_any (some ⟨g, 0, none⟩) len c A cap _ l H.out HK7.out.c hcap1 (by omega) HK7.out.a).mono ?_
    rintro e w10 ⟨rfl, hb⟩
    have HB8 := Lib.hid (below_up HB7.out hb)
    clear hb
    go_wp2_with fail
    go_ret
    exact ⟨rfl, HB8.out⟩
  · have fm : max (-1 : Int) 0 = 0 := by decide
    go_wp2_with fail
    refine (RefStart_any A len cap n _ l H.out HK7.out.a (by omega) (by omega) (by omega)).mono ?_
    rintro e w9 ⟨⟨v2, hv2, rfl⟩, rfl⟩
    obtain rfl := HV.out.uniq hv2
    clear hv2
    go_wp2_with fail
    refine (Kept_any (some ⟨g, 0, none⟩) len c A cap _ l H.out HK7.out.c hcap1 (by omega) HK7.out.a).mono ?_
    rintro e w10 ⟨rfl, hb⟩
    have HB8 := Lib.hid (below_up HB7.out hb)
    clear hb
    go_wp2_with fail
    go_ret
    exact ⟨rfl, HB8.out⟩
set_option maxRecDepth 20000 in
set_option maxHeartbeats 1000000 in
theorem asks_in (A : Option Addr) (len cap : Nat) (n : Nat) (w : World) (l : List Int) (hlen : l.length = len) (hB : Byt l) (hr : RdB w w.heap.size A l) (hm : len ≤ 1048576) (hk : cnt l ≤ n) (hn : n ≤ len) :
    Calls Try.prog 5 #[.slice A len cap, .int .i64 n] w fun e w' => e = .returned (.bool true) ∧ Below w.heap.size w w' := by
  have hcl := cnt_le l
  rw [hlen] at hcl
  have H := Lib.hid hlen; have HB := Lib.hid hB; have HR := Lib.hid hr
  clear hlen hB hr
  go_enter Try.func5, Try.ntmps5
  go_wp2_with fail
  refine (Lent_any A len cap _ l H.out HR.out (by omega)).mono ?_
  rintro e w1 ⟨⟨g, c, rfl, hown⟩, hb⟩
  have HC := Lib.hid hown.rd
  have hcap := hown.cap
  unfold maxLen at hcap
  obtain ⟨hcap1, hcap2⟩ := hcap
  have HA := Lib.hid (HR.out.up hb)
  have HB1 := Lib.hid hb
  clear hown hb
  go_wp2_with fail
  refine (RefEnds_any A len cap _ l H.out HA.out (by omega)).mono ?_
  rintro e w2 ⟨⟨E, ec, rfl, hown⟩, hb⟩
  have HK := Lib.hid (Kp.mk (HA.out.up hb) (HC.out.up hb) hown.rd)
  have HB2 := Lib.hid (below_up HB1.out hb)
  clear hown hb HA HC HB1
  go_wp2_with fail
  refine (Nth_no (some ⟨g, 0, none⟩) len c n _ l H.out HK.out.c.left (by omega) hk (by omega)).mono ?_
  rintro e w2' ⟨rfl, rfl⟩
  go_wp2_with fail
  refine (awake_any _).mono ?_
  rintro e w3 ⟨rfl, hb⟩
  have HK3 := Lib.hid (HK.out.up hb)
  have HB3 := Lib.hid (below_up HB2.out hb)
  clear hb HK HB2
  go_wp2_with fail
  refine (Count_any (some ⟨g, 0, none⟩) len c _ l H.out HB.out HK3.out.c.left).mono ?_
  rintro e w4 ⟨rfl, hb⟩
  have HK4 := Lib.hid (HK3.out.up hb)
  have HB4 := Lib.hid (below_up HB3.out hb)
  clear hb HK3 HB3
  go_wp2_with fail
  refine (Ends_any (some ⟨g, 0, none⟩) len c _ l H.out HK4.out.c.left (by omega)).mono ?_
  rintro e w5 ⟨⟨E2, ec2, rfl, hown⟩, hb⟩
  have HE := Lib.hid hown.rd
  have HK5 := Lib.hid (HK4.out.up hb)
  have HB5 := Lib.hid (below_up HB4.out hb)
  clear hown hb HK4 HB4
  go_wp2_with fail
  refine (Ints_true E2 (cnt l) ec2 E (cnt l) ec _ (endsI l) (endsI_len l) HE.out (by omega) rfl HK5.out.e).mono ?_
  rintro e w6 ⟨rfl, hb⟩
  have HK6 := Lib.hid (HK5.out.up hb)
  have HB6 := Lib.hid (below_up HB5.out hb)
  clear hb HK5 HB5 HE

  go_wp2_with fail
  refine (Line_yes (some ⟨g, 0, none⟩) len c n _ l H.out HB.out HK6.out.c.left (by omega) (by omega) (by omega)).mono ?_
  rintro e w7' ⟨rfl, hb⟩
  have HK7' := Lib.hid (HK6.out.up hb)
  have HB7' := Lib.hid (below_up HB6.out hb)
  clear hb HK6 HB6
  go_wp2_with fail
  refine (RefLine_any A len cap n _ l H.out HK7'.out.a (by omega) (by omega)).mono ?_
  rintro e w7 ⟨rfl, rfl⟩
  have HK7 := HK7'
  have HB7 := HB7'
  clear HK7' HB7'
  go_wp2_with fail
  refine (Start_any (some ⟨g, 0, none⟩) len c n _ l H.out HK7.out.c.left (by omega) (by omega) (by omega)).mono ?_
  rintro e w8 ⟨⟨v, hv, hS⟩, rfl⟩
  have HV := Lib.hid hv
  clear hv
  rcases hS with ⟨hv0, rfl⟩ | ⟨rfl, rfl⟩
  · have fm : max v 0 = v := by omega
    go_wp2_with fail
    refine (RefStart_any A len cap n _ l H.out HK7.out.a (by omega) (by omega) (by omega)).mono ?_
    rintro e w9 ⟨⟨v2, hv2, rfl⟩, rfl⟩
    obtain rfl := HV.out.uniq hv2
    clear hv2
    go_wp2_with fail
    refine (Kept_any (some ⟨g, 0, none⟩) len c A cap _ l H.out HK7.out.c hcap1 (by omega) HK7.out.a).mono ?_
    rintro e w10 ⟨rfl, hb⟩
    have HB8 := Lib.hid (below_up HB7.out hb)
    clear hb
    go_wp2_with fail
    go_ret
    exact ⟨rfl, HB8.out⟩
  · have fm : max (-1 : Int) 0 = 0 := by decide
    go_wp2_with fail
    refine (RefStart_any A len cap n _ l H.out HK7.out.a (by omega) (by omega) (by omega)).mono ?_
    rintro e w9 ⟨⟨v2, hv2, rfl⟩, rfl⟩
    obtain rfl := HV.out.uniq hv2
    clear hv2
    go_wp2_with fail
    refine (Kept_any (some ⟨g, 0, none⟩) len c A cap _ l H.out HK7.out.c hcap1 (by omega) HK7.out.a).mono ?_
    rintro e w10 ⟨rfl, hb⟩
    have HB8 := Lib.hid (below_up HB7.out hb)
    clear hb
    go_wp2_with fail
    go_ret
    exact ⟨rfl, HB8.out⟩
set_option maxRecDepth 20000 in
set_option maxHeartbeats 1000000 in
theorem asks_out (A : Option Addr) (len cap : Nat) (n : Nat) (w : World) (l : List Int) (hlen : l.length = len) (hB : Byt l) (hr : RdB w w.heap.size A l) (hm : len ≤ 1048576) (hk : cnt l ≤ n) (hn : len < n) (hn2 : n ≤ 9223372036854775807) :
    Calls Try.prog 5 #[.slice A len cap, .int .i64 n] w fun e w' => e = .returned (.bool true) ∧ Below w.heap.size w w' := by
  have hcl := cnt_le l
  rw [hlen] at hcl
  have H := Lib.hid hlen; have HB := Lib.hid hB; have HR := Lib.hid hr
  clear hlen hB hr
  go_enter Try.func5, Try.ntmps5
  go_wp2_with fail
  refine (Lent_any A len cap _ l H.out HR.out (by omega)).mono ?_
  rintro e w1 ⟨⟨g, c, rfl, hown⟩, hb⟩
  have HC := Lib.hid hown.rd
  have hcap := hown.cap
  unfold maxLen at hcap
  obtain ⟨hcap1, hcap2⟩ := hcap
  have HA := Lib.hid (HR.out.up hb)
  have HB1 := Lib.hid hb
  clear hown hb
  go_wp2_with fail
  refine (RefEnds_any A len cap _ l H.out HA.out (by omega)).mono ?_
  rintro e w2 ⟨⟨E, ec, rfl, hown⟩, hb⟩
  have HK := Lib.hid (Kp.mk (HA.out.up hb) (HC.out.up hb) hown.rd)
  have HB2 := Lib.hid (below_up HB1.out hb)
  clear hown hb HA HC HB1
  go_wp2_with fail
  refine (Nth_no (some ⟨g, 0, none⟩) len c n _ l H.out HK.out.c.left (by omega) hk (by omega)).mono ?_
  rintro e w2' ⟨rfl, rfl⟩
  go_wp2_with fail
  refine (awake_any _).mono ?_
  rintro e w3 ⟨rfl, hb⟩
  have HK3 := Lib.hid (HK.out.up hb)
  have HB3 := Lib.hid (below_up HB2.out hb)
  clear hb HK HB2
  go_wp2_with fail
  refine (Count_any (some ⟨g, 0, none⟩) len c _ l H.out HB.out HK3.out.c.left).mono ?_
  rintro e w4 ⟨rfl, hb⟩
  have HK4 := Lib.hid (HK3.out.up hb)
  have HB4 := Lib.hid (below_up HB3.out hb)
  clear hb HK3 HB3
  go_wp2_with fail
  refine (Ends_any (some ⟨g, 0, none⟩) len c _ l H.out HK4.out.c.left (by omega)).mono ?_
  rintro e w5 ⟨⟨E2, ec2, rfl, hown⟩, hb⟩
  have HE := Lib.hid hown.rd
  have HK5 := Lib.hid (HK4.out.up hb)
  have HB5 := Lib.hid (below_up HB4.out hb)
  clear hown hb HK4 HB4
  go_wp2_with fail
  refine (Ints_true E2 (cnt l) ec2 E (cnt l) ec _ (endsI l) (endsI_len l) HE.out (by omega) rfl HK5.out.e).mono ?_
  rintro e w6 ⟨rfl, hb⟩
  have HK6 := Lib.hid (HK5.out.up hb)
  have HB6 := Lib.hid (below_up HB5.out hb)
  clear hb HK5 HB5 HE

  go_wp2_with fail
  refine (Line_no (some ⟨g, 0, none⟩) len c n _ (by omega)).mono ?_
  rintro e w7 ⟨rfl, rfl⟩
  have HK7 := HK6
  have HB7 := HB6
  clear HK6 HB6
  go_wp2_with fail
  refine (Start_any (some ⟨g, 0, none⟩) len c n _ l H.out HK7.out.c.left (by omega) (by omega) (by omega)).mono ?_
  rintro e w8 ⟨⟨v, hv, hS⟩, rfl⟩
  have HV := Lib.hid hv
  clear hv
  rcases hS with ⟨hv0, rfl⟩ | ⟨rfl, rfl⟩
  · have fm : max v 0 = v := by omega
    go_wp2_with fail
    refine (RefStart_any A len cap n _ l H.out HK7.out.a (by omega) (by omega) (by omega)).mono ?_
    rintro e w9 ⟨⟨v2, hv2, rfl⟩, rfl⟩
    obtain rfl := HV.out.uniq hv2
    clear hv2
    go_wp2_with fail
    refine (Kept_any (some ⟨g, 0, none⟩) len c A cap _ l H.out HK7.out.c hcap1 (by omega) HK7.out.a).mono ?_
    rintro e w10 ⟨rfl, hb⟩
    have HB8 := Lib.hid (below_up HB7.out hb)
    clear hb
    go_wp2_with fail
    go_ret
    exact ⟨rfl, HB8.out⟩
  · have fm : max (-1 : Int) 0 = 0 := by decide
    go_wp2_with fail
    refine (RefStart_any A len cap n _ l H.out HK7.out.a (by omega) (by omega) (by omega)).mono ?_
    rintro e w9 ⟨⟨v2, hv2, rfl⟩, rfl⟩
    obtain rfl := HV.out.uniq hv2
    clear hv2
    go_wp2_with fail
    refine (Kept_any (some ⟨g, 0, none⟩) len c A cap _ l H.out HK7.out.c hcap1 (by omega) HK7.out.a).mono ?_
    rintro e w10 ⟨rfl, hb⟩
    have HB8 := Lib.hid (below_up HB7.out hb)
    clear hb
    go_wp2_with fail
    go_ret
    exact ⟨rfl, HB8.out⟩
theorem asks_walk (A : Option Addr) (len cap : Nat) (k : Int) (w : World) (l : List Int) (hlen : l.length = len) (hB : Byt l) (hr : RdB w w.heap.size A l) (hm : len ≤ 1048576) (b0 : -9223372036854775808 ≤ k) (b1 : k ≤ 9223372036854775807) :
    Calls Try.prog 5 #[.slice A len cap, .int .i64 k] w fun e w' => e = .returned (.bool true) ∧ Below w.heap.size w w' := by
  by_cases h0 : k < 0
  · exact asks_neg A len cap k w l hlen hB hr hm h0 b0
  obtain ⟨n, rfl⟩ : ∃ n : Nat, k = (n : Int) := ⟨k.toNat, by omega⟩
  by_cases h1 : n < cnt l
  · exact asks_there A len cap n w l hlen hB hr hm h1
  by_cases h2 : n ≤ len
  · exact asks_in A len cap n w l hlen hB hr hm (by omega) h2
  · exact asks_out A len cap n w l hlen hB hr hm (by omega) (by omega) (by omega)
end Go.Proofs.Ytnfipflodhnbhaa
