/-
  That the laws RedoHeads and RedoSealed return true.
-/
import Derived.Test.YtkjfbgjbifdbjaaWalkm
namespace Go.Proofs.Ytkjfbgjbifdbjaa
open Go.RowKit
open Classical in
noncomputable def packR (h : Hd) : List Int := if okH h then packL h else []
open Classical in
noncomputable def packE (h : Hd) : Int := if okH h then 0 else 1
theorem packR_len (h : Hd) : (packR h).length ≤ 64 := by
  unfold packR
  split
  · rw [pack_length]; exact Nat.le_refl _
  · exact Nat.zero_le _
theorem packE_bd (h : Hd) : packE h = 0 ∨ packE h = 1 := by
  unfold packE
  split
  · exact .inl rfl
  · exact .inr rfl
theorem PackHead_any (wave body sum : Int) (ready : Bool) (w : World) (hs : 0 ≤ sum ∧ sum ≤ 4294967295) :
    Calls Try.prog 7 #[.agg #[.int .i64 wave, .bool ready, .int .i64 body, .int .u32 sum]] w fun e w' => (∃ A n c, e = .returned (.tuple #[.slice A n c, .int .i64 (packE ⟨wave, ready, body, sum⟩)]) ∧ (packR ⟨wave, ready, body, sum⟩).length = n ∧ RdB w' w'.heap.size A (packR ⟨wave, ready, body, sum⟩)) ∧ Below w.heap.size w w' := by
  by_cases hok : okH ⟨wave, ready, body, sum⟩
  · have e1 : packR ⟨wave, ready, body, sum⟩ = packL ⟨wave, ready, body, sum⟩ := by unfold packR; rw [if_pos hok]
    have e2 : packE ⟨wave, ready, body, sum⟩ = 0 := by unfold packE; rw [if_pos hok]
    rw [e1, e2]
    obtain ⟨h0, h1, h2, h3⟩ := hok
    exact (PackHead_yes wave body sum ready w h0 h1 h2 h3 hs.1 hs.2).mono fun e w' ⟨⟨g, c, he, hO⟩, hb⟩ => ⟨⟨_, 64, c, he, pack_length _, hO.rd⟩, hb⟩
  · have e1 : packR ⟨wave, ready, body, sum⟩ = [] := by unfold packR; rw [if_neg hok]
    have e2 : packE ⟨wave, ready, body, sum⟩ = 1 := by unfold packE; rw [if_neg hok]
    rw [e1, e2]
    have hor : wave < 0 ∨ 2147483647 < wave ∨ body < 0 ∨ 2147483647 < body := by
      unfold okH at hok
      simp only at hok
      omega
    exact (PackHead_no wave body sum ready w hor).mono fun e w' ⟨he, hb⟩ => ⟨⟨none, 0, 0, he, rfl, RdB.nil _ _ _⟩, hb⟩
theorem RefPack_any (wave body sum : Int) (ready : Bool) (w : World) (hs : 0 ≤ sum ∧ sum ≤ 4294967295) :
    Calls Try.prog 8 #[.agg #[.int .i64 wave, .bool ready, .int .i64 body, .int .u32 sum]] w fun e w' => (∃ A n c, e = .returned (.tuple #[.slice A n c, .int .i64 (packE ⟨wave, ready, body, sum⟩)]) ∧ (packR ⟨wave, ready, body, sum⟩).length = n ∧ RdB w' w'.heap.size A (packR ⟨wave, ready, body, sum⟩)) ∧ Below w.heap.size w w' := by
  by_cases hok : okH ⟨wave, ready, body, sum⟩
  · have e1 : packR ⟨wave, ready, body, sum⟩ = packL ⟨wave, ready, body, sum⟩ := by unfold packR; rw [if_pos hok]
    have e2 : packE ⟨wave, ready, body, sum⟩ = 0 := by unfold packE; rw [if_pos hok]
    rw [e1, e2]
    obtain ⟨h0, h1, h2, h3⟩ := hok
    exact (RefPack_yes wave body sum ready w h0 h1 h2 h3 hs.1 hs.2).mono fun e w' ⟨⟨g, c, he, hO⟩, hb⟩ => ⟨⟨_, 64, c, he, pack_length _, hO.rd⟩, hb⟩
  · have e1 : packR ⟨wave, ready, body, sum⟩ = [] := by unfold packR; rw [if_neg hok]
    have e2 : packE ⟨wave, ready, body, sum⟩ = 1 := by unfold packE; rw [if_neg hok]
    rw [e1, e2]
    have hor : wave < 0 ∨ 2147483647 < wave ∨ body < 0 ∨ 2147483647 < body := by
      unfold okH at hok
      simp only at hok
      omega
    exact (RefPack_no wave body sum ready w hor).mono fun e w' ⟨he, hb⟩ => ⟨⟨none, 0, 0, he, rfl, RdB.nil _ _ _⟩, hb⟩
theorem OpenHead_gen (A : Option Addr) (n c : Nat) (w : World) (l : List Int) (hl : l.length = n) (hr : RdB w w.heap.size A l) (hy : Bytes l) (hc0 : n ≤ c) (hc : c ≤ 9223372036854775807) :
    Calls Try.prog 12 #[.slice A n c] w fun e w' => e = .returned (.tuple #[(openP l).1.val, .int .i64 (openP l).2]) ∧ Below w.heap.size w w' := by
  by_cases h64 : n = 64
  · subst h64
    obtain ⟨s, hs⟩ := get_some l 0 (by omega)
    obtain ⟨b, off, rfl, _, _⟩ := hr 0 s hs
    exact OpenHead_any b off c w l hl hr hy hc0 hc
  · exact OpenHead_short A n c w l hl h64 (by omega)
theorem RefOpen_gen (A : Option Addr) (n c : Nat) (w : World) (l : List Int) (hl : l.length = n) (hr : RdB w w.heap.size A l) (hy : Bytes l) (hc0 : n ≤ c) (hc : c ≤ 9223372036854775807) :
    Calls Try.prog 13 #[.slice A n c] w fun e w' => e = .returned (.tuple #[(openP l).1.val, .int .i64 (openP l).2]) ∧ Below w.heap.size w w' := by
  by_cases h64 : n = 64
  · subst h64
    obtain ⟨s, hs⟩ := get_some l 0 (by omega)
    obtain ⟨b, off, rfl, _, _⟩ := hr 0 s hs
    exact RefOpen_any b off c w l hl hr hy hc0 hc
  · exact RefOpen_short A n c w l hl h64 (by omega)
set_option maxRecDepth 20000 in
set_option maxHeartbeats 4000000 in
theorem heads_walk (wave body sum : Int) (ready : Bool) (A : Option Addr) (n c : Nat) (w : World) (l : List Int) (hs : 0 ≤ sum ∧ sum ≤ 4294967295) (hl : l.length = n) (hr : RdB w w.heap.size A l) (hy : Bytes l) (hn : n + 3 ≤ 140737488355328) (hc0 : n ≤ c) (hc : c ≤ 9223372036854775807) :
    Calls Try.prog 3 #[.agg #[.int .i64 wave, .bool ready, .int .i64 body, .int .u32 sum], .slice A n c] w fun e w' => e = .returned (.bool true) ∧ Below w.heap.size w w' := by
  have hbx : Below w.heap.size w (w.alloc (.cells #[.int .i64 wave, .bool ready, .int .i64 body, .int .u32 sum] 24)) := (Below.refl _ _).alloc (Nat.le_refl _) _
  have hcx : ∀ j : Nat, (w.alloc (.cells #[.int .i64 wave, .bool ready, .int .i64 body, .int .u32 sum] 24)).cell? ⟨w.heap.size, j, none⟩ = (#[.int .i64 wave, .bool ready, .int .i64 body, .int .u32 sum] : Array Value)[j]? := fun j => cell_new _ _ _ _
  have hszx : (w.alloc (.cells #[.int .i64 wave, .bool ready, .int .i64 body, .int .u32 sum] 24)).heap.size = w.heap.size + 1 := by simp
  have HBX := Lib.hid hbx; have HCX := Lib.hid hcx; have HSX := Lib.hid hszx
  have HL := Lib.hid hl; have HR := Lib.hid hr; have HY := Lib.hid hy
  have HPL := Lib.hid (packR_len ⟨wave, ready, body, sum⟩)
  obtain ⟨v1, v2, v3, v4, z, hop⟩ : ∃ v1 v2 v3 v4 z, openP l = (⟨v1, v2, v3, v4⟩, z) := ⟨_, _, _, _, _, rfl⟩
  have HOP := Lib.hid hop
  clear hop
  clear hbx hcx hszx hl hr hy
  go_enter Try.func3, Try.ntmps3
  go_wp2_with fail
  generalize w.alloc (.cells #[.int .i64 wave, .bool ready, .int .i64 body, .int .u32 sum] 24) = wx at *
  refine (PackHead_any wave body sum ready _ hs).mono ?_
  rintro e w1 ⟨⟨A1, n1, c1, rfl, hl1, hr1⟩, hb⟩
  have HL1 := Lib.hid hl1; have HR1 := Lib.hid hr1; have HB1 := Lib.hid hb
  have hlt : w.heap.size < wx.heap.size := by rw [HSX.out]; omega
  have m0 := (hb.cell (p := ⟨w.heap.size, 0, none⟩) hlt).trans (HCX.out 0)
  have m1 := (hb.cell (p := ⟨w.heap.size, 1, none⟩) hlt).trans (HCX.out 1)
  have m2 := (hb.cell (p := ⟨w.heap.size, 2, none⟩) hlt).trans (HCX.out 2)
  have m3 := (hb.cell (p := ⟨w.heap.size, 3, none⟩) hlt).trans (HCX.out 3)
  simp at m0 m1 m2 m3
  have hn1 : n1 ≤ 64 := by rw [← hl1]; exact HPL.out
  clear hl1 hr1 hb
  go_wp2_with fail
  refine (RefPack_any wave body sum ready _ hs).mono ?_
  rintro e w2 ⟨⟨A2, n2, c2, rfl, hl2, hr2⟩, hb⟩
  have HL2 := Lib.hid hl2; have HR2 := Lib.hid hr2; have HB2 := Lib.hid (below_up HB1.out hb); have HR12 := Lib.hid (HR1.out.up hb)
  have hn2 : n2 ≤ 64 := by rw [← hl2]; exact HPL.out
  clear hl2 hr2 hb HR1 HB1 m0 m1 m2 m3
  obtain ⟨pe, hpe⟩ : ∃ pe, packE ⟨wave, ready, body, sum⟩ = pe := ⟨_, rfl⟩
  rw [hpe]
  clear hpe
  go_wp2_with fail
  refine (awake_any _).mono ?_
  rintro e w3 ⟨rfl, hb⟩
  have HB3 := Lib.hid (below_up HB2.out hb); have HR13 := Lib.hid (HR12.out.up hb); have HR23 := Lib.hid (HR2.out.up hb)
  clear hb HB2 HR12 HR2
  go_wp2_with fail
  refine (Same_any A1 n1 c1 A2 n2 c2 _ _ _ HL1.out HL2.out HR13.out HR23.out (by omega) (by omega) true (by simp)).mono ?_
  rintro e w4 ⟨rfl, hb⟩
  have HB4 := Lib.hid (below_up HB3.out hb)
  clear hb HB3 HR13 HR23
  go_wp2_with fail
  have HRA := Lib.hid ((HR.out.up HBX.out).up HB4.out)
  refine (Lent_any A n c _ l HL.out HRA.out hn).mono ?_
  rintro e w5 ⟨⟨g, c5, rfl, hO⟩, hb⟩
  have HO := Lib.hid hO
  have hcp := hO.cap
  unfold maxLen at hcp
  have HB5 := Lib.hid (below_up HB4.out hb)
  clear hO hb HB4
  go_wp2_with fail
  refine (OpenHead_gen _ n c5 _ l HL.out HO.out.rd.left HY.out (by omega) (by omega)).mono ?_
  rintro e w6 ⟨he, hb⟩
  obtain rfl : e = .returned (.tuple #[.agg #[.int .i64 v1, .bool v2, .int .i64 v3, .int .u32 v4], .int .i64 z]) := by rw [he, HOP.out]; rfl
  have HO6 := Lib.hid (HO.out.below hb (Nat.le_refl _))
  have HB6 := Lib.hid (below_up HB5.out hb)
  clear he hb HO HB5
  go_upto_region 7 with (fail)
  generalize hw7 : w6.alloc (.cells #[.int .i64 v1, .bool v2, .int .i64 v3, .int .u32 v4] 24) = w7 at *
  have hb7 : Below w6.heap.size w6 w7 := by rw [← hw7]; exact (Below.refl _ _).alloc (Nat.le_refl _) _
  have hc7 : ∀ j : Nat, w7.cell? ⟨w6.heap.size, j, none⟩ = (#[.int .i64 v1, .bool v2, .int .i64 v3, .int .u32 v4] : Array Value)[j]? := fun j => by rw [← hw7]; exact cell_new _ _ _ _
  have hlt7 : w6.heap.size < w7.heap.size := by rw [← hw7]; simp
  have HB7 := Lib.hid (below_up HB6.out hb7)
  have HO7 := Lib.hid (HO6.out.below hb7 (Nat.le_refl _))
  have HC7 := Lib.hid hc7
  clear hw7 hb7 hc7 HB6 HO6
  have HRB := Lib.hid ((HR.out.up HBX.out).up HB7.out)
  go_wp2_with fail
  refine (RefOpen_gen A n c _ l HL.out HRB.out HY.out hc0 hc).mono ?_
  rintro e w8 ⟨he, hb⟩
  obtain rfl : e = .returned (.tuple #[.agg #[.int .i64 v1, .bool v2, .int .i64 v3, .int .u32 v4], .int .i64 z]) := by rw [he, HOP.out]; rfl
  have HB8 := Lib.hid (below_up HB7.out hb)
  have HO8 := Lib.hid (HO7.out.below hb (Nat.le_refl _))
  have m0 := (hb.cell (p := ⟨w6.heap.size, 0, none⟩) hlt7).trans (HC7.out 0)
  have m1 := (hb.cell (p := ⟨w6.heap.size, 1, none⟩) hlt7).trans (HC7.out 1)
  have m2 := (hb.cell (p := ⟨w6.heap.size, 2, none⟩) hlt7).trans (HC7.out 2)
  have m3 := (hb.cell (p := ⟨w6.heap.size, 3, none⟩) hlt7).trans (HC7.out 3)
  simp at m0 m1 m2 m3
  clear he hb HO7 HB7 HC7
  go_upto_region 8 with (fail)
  generalize hw9 : w8.alloc (.cells #[.int .i64 v1, .bool v2, .int .i64 v3, .int .u32 v4] 24) = w9 at *
  have hb9 : Below w8.heap.size w8 w9 := by rw [← hw9]; exact (Below.refl _ _).alloc (Nat.le_refl _) _
  have hc9 : ∀ j : Nat, w9.cell? ⟨w8.heap.size, j, none⟩ = (#[.int .i64 v1, .bool v2, .int .i64 v3, .int .u32 v4] : Array Value)[j]? := fun j => by rw [← hw9]; exact cell_new _ _ _ _
  have r0 := hc9 0; have r1 := hc9 1; have r2 := hc9 2; have r3 := hc9 3
  simp at r0 r1 r2 r3
  have s0 := (hb9.cell (p := ⟨w6.heap.size, 0, none⟩) (World.block_lt_of_cell? _ _ m0)).trans m0
  have s1 := (hb9.cell (p := ⟨w6.heap.size, 1, none⟩) (World.block_lt_of_cell? _ _ m1)).trans m1
  have s2 := (hb9.cell (p := ⟨w6.heap.size, 2, none⟩) (World.block_lt_of_cell? _ _ m2)).trans m2
  have s3 := (hb9.cell (p := ⟨w6.heap.size, 3, none⟩) (World.block_lt_of_cell? _ _ m3)).trans m3
  have HB9 := Lib.hid (below_up HB8.out hb9)
  have HO9 := Lib.hid (HO8.out.below hb9 (Nat.le_refl _))
  clear hw9 hb9 hc9 m0 m1 m2 m3 HB8 HO8
  have HRC := Lib.hid ((HR.out.up HBX.out).up HB9.out)
  go_wp2_with fail
  refine (Kept_any _ n c5 A c _ l HL.out HO9.out.rd (by omega) (by omega) HRC.out).mono ?_
  rintro e w10 ⟨rfl, hb⟩
  have HB10 := Lib.hid (below_up HB9.out hb)
  clear hb HB9
  go_wp2_with fail
  go_ret
  exact ⟨rfl, HBX.out.trans (HB10.out.mono (by rw [HSX.out]; omega))⟩
end Go.Proofs.Ytkjfbgjbifdbjaa
