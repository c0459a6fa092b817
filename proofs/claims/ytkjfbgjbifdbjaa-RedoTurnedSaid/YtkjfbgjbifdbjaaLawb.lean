/-
  That the law RedoTurned returns true.
-/
import Derived.Test.YtkjfbgjbifdbjaaWalkm
namespace Go.Proofs.Ytkjfbgjbifdbjaa
open Go.RowKit
/-- A byte of what was packed turned: the sum is another one. -/
theorem open_turned (h : Hd) (i : Nat) (hi : i < 64) (x : Int) (hx : 0 ≤ x ∧ x ≤ 255) (y : Int) (hy : (packL h)[i]? = some y) (hne : x ≠ y) : openP ((packL h).set i x) = (hd0, 5) := by
  obtain ⟨e1, e2⟩ := take60 h
  have hc := crcOf_lt (pre_bytes h)
  have hl : ((packL h).set i x).length = 64 := by rw [List.length_set, pack_length]
  unfold openP
  rw [if_neg (by omega), if_pos ?_]
  by_cases h60 : i < 60
  · have ht : ((packL h).set i x).take 60 = (preL h).set i x := by rw [List.take_set, e1]
    have hd : ((packL h).set i x).drop 60 = leB (crcOf (preL h)) 4 := by rw [List.drop_set_of_lt (by omega), e2]
    rw [ht, hd, leVal_leB4 _ (by omega) (by omega)]
    have hp : (preL h)[i]? = some y := by rw [← e1, List.getElem?_take_of_lt h60]; exact hy
    obtain ⟨hlt, hge⟩ := List.getElem?_eq_some_iff.1 hp
    have hs : preL h = (preL h).take i ++ y :: (preL h).drop (i+1) := by
      rw [← hge, ← List.drop_eq_getElem_cons hlt, List.take_append_drop]
    have hs2 : (preL h).set i x = (preL h).take i ++ x :: (preL h).drop (i+1) := by
      rw [List.set_eq_take_append_cons_drop, if_pos hlt]
    have hby := pre_bytes h
    have hyb := hby y (List.mem_of_getElem? hp)
    have := crc_turned ((preL h).take i) ((preL h).drop (i+1)) y x (bytes_take hby i) (bytes_drop hby (i+1)) hyb hx (Ne.symm hne)
    rw [← hs, ← hs2] at this
    omega
  · have ht : ((packL h).set i x).take 60 = preL h := by rw [List.take_set_of_le (by omega), e1]
    rw [ht]
    have hd : ((packL h).set i x).drop 60 = (leB (crcOf (preL h)) 4).set (i - 60) x := by rw [List.drop_set, if_neg (by omega), e2]
    rw [hd]
    intro he
    have hbs : Bytes ((leB (crcOf (preL h) : Int) 4).set (i - 60) x) := by
      intro b hb
      rcases List.mem_or_eq_of_mem_set hb with hb | hb
      · exact leB_bytes _ _ b hb
      · rw [hb]; exact hx
    have h1 := leB_leVal _ hbs
    rw [he, List.length_set, leB_length] at h1
    have h2 : (leB (crcOf (preL h) : Int) 4)[i - 60]? = some y := by
      rw [← e2, List.getElem?_drop]
      rw [show 60 + (i - 60) = i by omega]; exact hy
    have h3 : ((leB (crcOf (preL h) : Int) 4).set (i - 60) x)[i - 60]? = some x := by
      rw [List.getElem?_set_self (by rw [leB_length]; omega)]
    rw [← h1, h2] at h3
    injection h3 with h3
    exact hne h3.symm
theorem flip_ne (y : Int) (h0 : 0 ≤ y) (h1 : y ≤ 255) (k : Nat) (hk : k < 8) (p : Int) (hp : p = 2 ^ k) : 0 ≤ bits .xor .u8 y p ∧ bits .xor .u8 y p ≤ 255 ∧ bits .xor .u8 y p ≠ y := by
  obtain ⟨a, rfl⟩ := Int.eq_ofNat_of_zero_le h0
  have ha : a < 256 := by omega
  have hpn : p = ((2 ^ k : Nat) : Int) := by rw [hp]; simp
  have hp8 : 2 ^ k < 2 ^ 8 := Nat.pow_lt_pow_right (by decide) hk
  have hx := bits_xor_nat .u8 8 (by decide) wraps_u8 a (2 ^ k) (by omega) hp8
  rw [hpn, hx]
  have hlt := Nat.xor_lt_two_pow (n := 8) (show a < 2 ^ 8 from ha) hp8
  refine ⟨by omega, by omega, fun he => ?_⟩
  have he' : a ^^^ 2 ^ k = a := by exact_mod_cast he
  have h2 : a ^^^ (a ^^^ 2 ^ k) = a ^^^ a := by rw [he']
  rw [← Nat.xor_assoc, Nat.xor_self, Nat.zero_xor] at h2
  have := Nat.two_pow_pos k
  omega
set_option maxRecDepth 20000 in
set_option maxHeartbeats 4000000 in
theorem turned_walk (wave body sum bt : Int) (ready : Bool) (w : World) (hs : 0 ≤ sum ∧ sum ≤ 4294967295) (hb0 : -9223372036854775808 ≤ bt) (hb1 : bt ≤ 9223372036854775807) (hw : -9223372036854775808 ≤ wave ∧ wave ≤ 9223372036854775807) (hy : -9223372036854775808 ≤ body ∧ body ≤ 9223372036854775807) :
    Calls Try.prog 5 #[.agg #[.int .i64 wave, .bool ready, .int .i64 body, .int .u32 sum], .int .i64 bt] w fun e w' => e = .returned (.bool true) ∧ Below w.heap.size w w' := by
  have hbx : Below w.heap.size w (w.alloc (.cells #[.int .i64 wave, .bool ready, .int .i64 body, .int .u32 sum] 24)) := (Below.refl _ _).alloc (Nat.le_refl _) _
  have hcx : ∀ j : Nat, (w.alloc (.cells #[.int .i64 wave, .bool ready, .int .i64 body, .int .u32 sum] 24)).cell? ⟨w.heap.size, j, none⟩ = (#[.int .i64 wave, .bool ready, .int .i64 body, .int .u32 sum] : Array Value)[j]? := fun j => cell_new _ _ _ _
  have HBX := Lib.hid hbx; have HCX := Lib.hid hcx
  have hszx : (w.alloc (.cells #[.int .i64 wave, .bool ready, .int .i64 body, .int .u32 sum] 24)).heap.size = w.heap.size + 1 := by simp
  have HSX := Lib.hid hszx
  clear hbx hcx hszx
  by_cases hok : 0 ≤ wave ∧ wave ≤ 2147483647 ∧ 0 ≤ body ∧ body ≤ 2147483647
  · obtain ⟨h0, h1, h2, h3⟩ := hok
    have HP := Lib.hid (open_pack ⟨wave, ready, body, sum⟩ ⟨h0, h1, h2, h3⟩ hs)
    have HT := Lib.hid (open_turned ⟨wave, ready, body, sum⟩)
    go_enter Try.func5, Try.ntmps5
    go_wp2_with fail
    generalize w.alloc (.cells #[.int .i64 wave, .bool ready, .int .i64 body, .int .u32 sum] 24) = wx at *
    refine (PackHead_yes wave body sum ready _ h0 h1 h2 h3 hs.1 hs.2).mono ?_
    rintro e w1 ⟨⟨g, c, rfl, hO⟩, hb⟩
    have HO := Lib.hid hO
    have HB1 := Lib.hid hb
    have hc := hO.cap
    have hg := hO.base_le
    unfold maxLen at hc
    clear hO hb
    go_wp2_with fail
    refine (awake_any _).mono ?_
    rintro e w2 ⟨rfl, hb⟩
    have HO2 := Lib.hid (HO.out.below hb (Nat.le_refl _))
    have HB2 := Lib.hid (below_up HB1.out hb)
    clear hb HB1 HO
    go_wp2_with fail
    refine (OpenHead_any g 0 c _ (packL ⟨wave, ready, body, sum⟩) (pack_length _) HO2.out.rd (pack_bytes _) hc.1 (by omega)).mono ?_
    rintro e w3 ⟨he, hb⟩
    obtain rfl : e = .returned (.tuple #[.agg #[.int .i64 wave, .bool ready, .int .i64 body, .int .u32 sum], .int .i64 0]) := by rw [he, HP.out]; rfl
    have HO3 := Lib.hid (HO2.out.below hb (Nat.le_refl _))
    have HB3 := Lib.hid (below_up HB2.out hb)
    have hlt : w.heap.size < wx.heap.size := by rw [HSX.out]; omega
    have hb3s := HB3.out.size
    have m0 := (HB3.out.cell (p := ⟨w.heap.size, 0, none⟩) hlt).trans (HCX.out 0)
    have m1 := (HB3.out.cell (p := ⟨w.heap.size, 1, none⟩) hlt).trans (HCX.out 1)
    have m2 := (HB3.out.cell (p := ⟨w.heap.size, 2, none⟩) hlt).trans (HCX.out 2)
    have m3 := (HB3.out.cell (p := ⟨w.heap.size, 3, none⟩) hlt).trans (HCX.out 3)
    simp at m0 m1 m2 m3
    clear he hb HO2 HB2
    go_upto_region 5 with (fail)
    generalize hw4 : w3.alloc (.cells #[.int .i64 wave, .bool ready, .int .i64 body, .int .u32 sum] 24) = w4 at *
    have hb4 : Below w3.heap.size w3 w4 := by rw [← hw4]; exact (Below.refl _ _).alloc (Nat.le_refl _) _
    have hc4 : ∀ j : Nat, w4.cell? ⟨w3.heap.size, j, none⟩ = (#[.int .i64 wave, .bool ready, .int .i64 body, .int .u32 sum] : Array Value)[j]? := fun j => by rw [← hw4]; exact cell_new _ _ _ _
    have r0 := hc4 0; have r1 := hc4 1; have r2 := hc4 2; have r3 := hc4 3
    simp at r0 r1 r2 r3
    have s0 := (hb4.cell (p := ⟨w.heap.size, 0, none⟩) (World.block_lt_of_cell? _ _ m0)).trans m0
    have s1 := (hb4.cell (p := ⟨w.heap.size, 1, none⟩) (World.block_lt_of_cell? _ _ m1)).trans m1
    have s2 := (hb4.cell (p := ⟨w.heap.size, 2, none⟩) (World.block_lt_of_cell? _ _ m2)).trans m2
    have s3 := (hb4.cell (p := ⟨w.heap.size, 3, none⟩) (World.block_lt_of_cell? _ _ m3)).trans m3
    have HB4 := Lib.hid (below_up HB3.out hb4)
    have HO4 := Lib.hid (HO3.out.below hb4 (Nat.le_refl _))
    have hfin : ∀ W, Below wx.heap.size wx W → Below w.heap.size w W := fun W h => HBX.out.trans (h.mono (Nat.le_of_lt hlt))
    have HFIN := Lib.hid hfin
    clear hw4 hb4 hc4 m0 m1 m2 m3 HB3 HO3 hfin
    by_cases hin : 0 ≤ bt ∧ bt < 512
    · obtain ⟨hb2, hb3⟩ := hin
      obtain ⟨i, hi⟩ : ∃ i : Nat, bt / 8 = (i : Int) := ⟨(bt / 8).toNat, by omega⟩
      have hi64 : i < 64 := by omega
      obtain ⟨y, hy'⟩ := get_some (packL ⟨wave, ready, body, sum⟩) i (by rw [pack_length]; exact hi64)
      have hyb := pack_bytes _ y (List.mem_of_getElem? hy')
      have hcell := HO4.out.cell i hi64 y hy'
      have hfz := HO4.out.2.frozenAt i
      obtain ⟨k, hk⟩ : ∃ k : Nat, bt % 8 = (k : Int) := ⟨(bt % 8).toNat, by omega⟩
      have hk8 : k < 8 := by omega
      have HF := Lib.hid (flip_ne y hyb.1 hyb.2 k hk8 _ rfl)
      have HYY := Lib.hid hy'
      have HI := Lib.hid hi
      clear hy'
      go_upto_region 9 with (fail)
      go_cut [] (fun wc => ∃ x, 0 ≤ x ∧ x ≤ 255 ∧ x ≠ y ∧ wc = w4.setCell ⟨g, i, none⟩ (.int .u8 x))
      case first =>
        rcases (show k = 0 ∨ k = 1 ∨ k = 2 ∨ k = 3 ∨ k = 4 ∨ k = 5 ∨ k = 6 ∨ k = 7 by omega) with rfl | rfl | rfl | rfl | rfl | rfl | rfl | rfl
        all_goals
          go_wp2_with fail
          go_meet
          obtain ⟨q0, q1, q2⟩ := HF.out
          exact ⟨_, q0, q1, q2, rfl⟩
      case rest =>
      obtain ⟨x, hx0, hx1, hxne, rfl⟩ := hcut
      have hby : Bytes ((packL ⟨wave, ready, body, sum⟩).set i x) := by
        intro b hb
        rcases List.mem_or_eq_of_mem_set hb with hb | hb
        · exact pack_bytes _ b hb
        · rw [hb]; exact ⟨hx0, hx1⟩
      have hlen : ((packL ⟨wave, ready, body, sum⟩).set i x).length = 64 := by rw [List.length_set, pack_length]
      have HO5 := Lib.hid (HO4.out.set i x)
      have HB5 := Lib.hid (HB4.out.setCell (p := ⟨g, i, none⟩) hg.1 (.int .u8 x))
      have HE := Lib.hid (HT.out i hi64 x ⟨hx0, hx1⟩ y HYY.out hxne)
      have HBY := Lib.hid hby; have HLN := Lib.hid hlen
      clear hby hlen r0 r1 r2 r3 s0 s1 s2 s3 hcell hfz hi hk HF
      generalize w4.setCell ⟨g, i, none⟩ (.int .u8 x) = w5 at *
      go_wp2_with fail
      refine (OpenHead_any g 0 c _ _ HLN.out HO5.out.rd HBY.out hc.1 (by omega)).mono ?_
      rintro e w6 ⟨he, hb⟩
      obtain rfl : e = .returned (.tuple #[.agg #[.int .i64 0, .bool false, .int .i64 0, .int .u32 0], .int .i64 5]) := by rw [he, HE.out]; rfl
      have HB6 := Lib.hid (below_up HB5.out hb)
      clear he hb HB5
      go_upto_region 11 with (fail)
      generalize hw7 : w6.alloc (.cells #[.int .i64 0, .bool false, .int .i64 0, .int .u32 0] 24) = w7 at *
      have hb7 : Below w6.heap.size w6 w7 := by rw [← hw7]; exact (Below.refl _ _).alloc (Nat.le_refl _) _
      have hc7 : ∀ j : Nat, w7.cell? ⟨w6.heap.size, j, none⟩ = (#[.int .i64 0, .bool false, .int .i64 0, .int .u32 0] : Array Value)[j]? := fun j => by rw [← hw7]; exact cell_new _ _ _ _
      have r0 := hc7 0; have r1 := hc7 1; have r2 := hc7 2; have r3 := hc7 3
      simp at r0 r1 r2 r3
      have HB7 := Lib.hid (below_up HB6.out hb7)
      clear hw7 hb7 hc7 HB6
      go_wp2_with fail
      go_ret
      exact ⟨rfl, HFIN.out _ HB7.out⟩
    · by_cases hneg : bt < 0
      · clear hin
        go_wp2_with fail
        go_ret
        exact ⟨rfl, HFIN.out _ HB4.out⟩
      · have hge : 512 ≤ bt := by omega
        clear hin
        go_wp2_with fail
        go_ret
        exact ⟨rfl, HFIN.out _ HB4.out⟩
  · have hor : wave < 0 ∨ 2147483647 < wave ∨ body < 0 ∨ 2147483647 < body := by omega
    clear hok
    go_enter Try.func5, Try.ntmps5
    go_wp2_with fail
    generalize w.alloc (.cells #[.int .i64 wave, .bool ready, .int .i64 body, .int .u32 sum] 24) = wx at *
    refine (PackHead_no wave body sum ready _ hor).mono ?_
    rintro e w1 ⟨rfl, hb⟩
    have HB1 := Lib.hid hb
    clear hb
    go_wp2_with fail
    refine (awake_any _).mono ?_
    rintro e w2 ⟨rfl, hb⟩
    have HB2 := Lib.hid (below_up HB1.out hb)
    clear hb
    go_wp2_with fail
    refine (awake_any _).mono ?_
    rintro e w3 ⟨rfl, hb⟩
    have HB3 := Lib.hid (below_up HB2.out hb)
    clear hb
    go_wp2_with fail
    go_ret
    exact ⟨rfl, HBX.out.trans (HB3.out.mono (by rw [HSX.out]; omega))⟩
end Go.Proofs.Ytkjfbgjbifdbjaa
