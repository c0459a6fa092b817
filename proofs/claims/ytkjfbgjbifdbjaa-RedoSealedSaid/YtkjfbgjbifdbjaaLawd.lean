/-
  That the law RedoSealed returns true.
-/
import Derived.Test.YtkjfbgjbifdbjaaLawc
namespace Go.Proofs.Ytkjfbgjbifdbjaa
open Go.RowKit
theorem open_sealed (l : List Int) (hl : l.length = 60) (hy : Bytes l) : openP (l ++ leB (crcOf l) 4) = if formB l = true then (hdOf l, 0) else (hd0, 4) := by
  have hc := crcOf_lt hy
  have h1 : (l ++ leB (crcOf l : Int) 4).take 60 = l := List.take_left' hl
  have h2 : (l ++ leB (crcOf l : Int) 4).drop 60 = leB (crcOf l) 4 := List.drop_left' hl
  have h3 : (l ++ leB (crcOf l : Int) 4).length = 64 := by rw [List.length_append, hl, leB_length]
  unfold openP
  rw [if_neg (by omega), h1, h2, leVal_leB4 _ (by omega) (by omega), if_neg (by simp)]
theorem pack_sealed (l : List Int) (hl : l.length = 60) (hy : Bytes l) (hf : formB l = true) : packL (hdOf l) = l ++ leB (crcOf l) 4 ∧ okH (hdOf l) ∧ sumOk (hdOf l) := by
  obtain ⟨h1, h2, h3⟩ := form_pre l hl hy hf
  exact ⟨by rw [packL, h1], h2, h3⟩
set_option maxRecDepth 20000 in
set_option maxHeartbeats 4000000 in
theorem sealed_walk (A : Option Addr) (n c : Nat) (w : World) (l : List Int) (hl : l.length = n) (hr : RdB w w.heap.size A l) (hy : Bytes l) (hc0 : n ≤ c) (_hc : c ≤ 9223372036854775807) :
    Calls Try.prog 4 #[.slice A n c] w fun e w' => e = .returned (.bool true) ∧ Below w.heap.size w w' := by
  by_cases h60 : n = 60
  · subst h60
    obtain ⟨i0, hi, hz0, hz1, hz2⟩ := info_parts info5
    have hcr := crcOf_lt hy
    have HOS := Lib.hid (open_sealed l hl hy)
    have HPS := Lib.hid (pack_sealed l hl hy)
    have hml : (l ++ leB (crcOf l : Int) 4).length = 64 := by rw [List.length_append, hl, leB_length]
    have hmy : Bytes (l ++ leB (crcOf l : Int) 4) := bytes_append hy (leB_bytes _ _)
    have HML := Lib.hid hml; have HMY := Lib.hid hmy
    have HL := Lib.hid hl; have HR := Lib.hid hr; have HY := Lib.hid hy
    clear hl hr hy hml hmy
    have hwr : IntKind.i64.wrap (crcOf l : Int) = crcOf l := by rw [IntKind.wrap_i64]; omega
    go_enter Try.func4, Try.ntmps4
    go_wp2_with fail
    refine (awake_any _).mono ?_
    rintro e w1 ⟨rfl, hb⟩
    have HB1 := Lib.hid hb
    have HR1 := Lib.hid (HR.out.up hb)
    clear hb
    go_wp2_with fail
    refine (crcRef_any A 60 c _ l HL.out HR1.out HY.out (by omega)).mono ?_
    rintro e w2 ⟨rfl, rfl⟩
    generalize crcOf l = cr at *
    go_wp2_with fail
    refine (RefBytes_any (cr : Int) 4 _ (by omega) (by omega) (by omega) (by omega) (dv4 (by omega) (by omega))).mono ?_
    rintro e w3 ⟨⟨gs, cs, rfl, hOs⟩, hb⟩
    have HOS3 := Lib.hid hOs
    have HB3 := Lib.hid (below_up HB1.out hb)
    have HR3 := Lib.hid (HR1.out.up hb)
    have HSZ3 := Lib.hid HB3.out.size
    clear hOs hb HB1 HR1
    go_wp2_with fail
    refine (Copy_any A 60 c _ l HL.out HR3.out (by omega)).mono ?_
    rintro e w4 ⟨⟨A4, c4, rfl, hO⟩, hb⟩
    have HO4 := Lib.hid hO
    have HB4 := Lib.hid (below_up HB3.out hb)
    have HS4 := Lib.hid (HOS3.out.rd.up hb)
    have hsz4 := hb.size
    clear hO hb HB3 HR3 HOS3
    go_wp2_with (at_builtin; refine wpList_append_own _ rfl _ _ 25 rfl w3.heap.size 5 i0 _ 1 1 Try.underlying25 hi hz0 hz1 hz2 rfl (by decide) _ _ _ rfl HO4.out.2 ⟨gs, 0, none⟩ 4 cs (bcells (leB (cr : Int) 4)) rfl (by simp [bcells, leB]) (RdB.cells HS4.out) (bcells_one _) (by unfold maxLen; omega) (by omega) (by omega) ?_)
    intro v' w5 hown' hgrow _
    obtain ⟨⟨A5, c5, hv, hO⟩, hb5, _, _, _⟩ := appB_step (w := w4) HO4.out (Below.refl _ _) (by omega) (Below.refl _ _) (m := 4) (K := leB (cr : Int) 4) (leB_length _ 4) hown' hgrow
    have hcap := hO.cap
    unfold maxLen at hcap
    have HO5 := Lib.hid hO
    have HB5 : Hid (Below w.heap.size w w5) := Lib.hid (HB4.out.trans (hb5.mono HSZ3.out))
    rw [hv]
    clear hown' hgrow hv hO hb5 HO4 HB4
    go_wp2_with fail
    by_cases hf : formB l = true
    · obtain ⟨v1, v2, v3, v4, hop⟩ : ∃ v1 v2 v3 v4, hdOf l = ⟨v1, v2, v3, v4⟩ := ⟨_, _, _, _, rfl⟩
      have hps := HPS.out hf
      rw [hop] at hps
      have hos := HOS.out
      rw [if_pos hf, hop] at hos
      have HOP := Lib.hid hos
      obtain ⟨p1, p2, p3⟩ := hps
      have HP1 := Lib.hid p1
      obtain ⟨o0, o1, o2, o3⟩ := p2
      obtain ⟨q0, q1⟩ := p3
      clear p1 hos hop hf HOS HPS
      simp only at o0 o1 o2 o3 q0 q1
      refine (OpenHead_gen A5 64 c5 _ _ HML.out HO5.out.rd HMY.out (by omega) (by omega)).mono ?_
      rintro e w6 ⟨he, hb⟩
      obtain rfl : e = .returned (.tuple #[.agg #[.int .i64 v1, .bool v2, .int .i64 v3, .int .u32 v4], .int .i64 0]) := by rw [he, HOP.out]; rfl
      have HO6 := Lib.hid (HO5.out.below hb (Nat.le_refl _))
      have HB6 := Lib.hid (below_up HB5.out hb)
      clear he hb HO5 HB5
      go_upto_region 6 with (fail)
      generalize hw7 : w6.alloc (.cells #[.int .i64 v1, .bool v2, .int .i64 v3, .int .u32 v4] 24) = w7 at *
      have hb7 : Below w6.heap.size w6 w7 := by rw [← hw7]; exact (Below.refl _ _).alloc (Nat.le_refl _) _
      have hc7 : ∀ j : Nat, w7.cell? ⟨w6.heap.size, j, none⟩ = (#[.int .i64 v1, .bool v2, .int .i64 v3, .int .u32 v4] : Array Value)[j]? := fun j => by rw [← hw7]; exact cell_new _ _ _ _
      have hlt7 : w6.heap.size < w7.heap.size := by rw [← hw7]; simp
      have HB7 := Lib.hid (below_up HB6.out hb7)
      have HO7 := Lib.hid (HO6.out.below hb7 (Nat.le_refl _))
      have HC7 := Lib.hid hc7
      clear hw7 hb7 hc7 HB6 HO6
      go_wp2_with fail
      refine (RefOpen_gen A5 64 c5 _ _ HML.out HO7.out.rd HMY.out (by omega) (by omega)).mono ?_
      rintro e w8 ⟨he, hb⟩
      obtain rfl : e = .returned (.tuple #[.agg #[.int .i64 v1, .bool v2, .int .i64 v3, .int .u32 v4], .int .i64 0]) := by rw [he, HOP.out]; rfl
      have HB8 := Lib.hid (below_up HB7.out hb)
      have HO8 := Lib.hid (HO7.out.below hb (Nat.le_refl _))
      have m0 := (hb.cell (p := ⟨w6.heap.size, 0, none⟩) hlt7).trans (HC7.out 0)
      have m1 := (hb.cell (p := ⟨w6.heap.size, 1, none⟩) hlt7).trans (HC7.out 1)
      have m2 := (hb.cell (p := ⟨w6.heap.size, 2, none⟩) hlt7).trans (HC7.out 2)
      have m3 := (hb.cell (p := ⟨w6.heap.size, 3, none⟩) hlt7).trans (HC7.out 3)
      simp at m0 m1 m2 m3
      clear he hb HO7 HB7 HC7
      go_upto_region 7 with (fail)
      generalize hw9 : w8.alloc (.cells #[.int .i64 v1, .bool v2, .int .i64 v3, .int .u32 v4] 24) = w9 at *
      have hb9 : Below w8.heap.size w8 w9 := by rw [← hw9]; exact (Below.refl _ _).alloc (Nat.le_refl _) _
      have s0 := (hb9.cell (p := ⟨w6.heap.size, 0, none⟩) (World.block_lt_of_cell? _ _ m0)).trans m0
      have s1 := (hb9.cell (p := ⟨w6.heap.size, 1, none⟩) (World.block_lt_of_cell? _ _ m1)).trans m1
      have s2 := (hb9.cell (p := ⟨w6.heap.size, 2, none⟩) (World.block_lt_of_cell? _ _ m2)).trans m2
      have s3 := (hb9.cell (p := ⟨w6.heap.size, 3, none⟩) (World.block_lt_of_cell? _ _ m3)).trans m3
      have HB9 := Lib.hid (below_up HB8.out hb9)
      have HO9 := Lib.hid (HO8.out.below hb9 (Nat.le_refl _))
      clear hw9 hb9 m0 m1 m2 m3 HB8 HO8
      go_wp2_with fail
      refine (PackHead_yes v1 v3 v4 v2 _ o0 o1 o2 o3 q0 q1).mono ?_
      rintro e w10 ⟨⟨g, cg, rfl, hOg⟩, hb⟩
      have HOg := Lib.hid hOg
      have HB10 := Lib.hid (below_up HB9.out hb)
      have HO10 := Lib.hid (HO9.out.below hb (Nat.le_refl _))
      clear hOg hb HB9 HO9
      go_wp2_with fail
      refine (Same_any _ 64 cg A5 64 c5 _ _ _ (pack_length _) HML.out HOg.out.rd HO10.out.rd (by omega) (by omega) true (by rw [decide_eq_true_iff]; exact HP1.out)).mono ?_
      rintro e w11 ⟨rfl, hb⟩
      have HB11 := Lib.hid (below_up HB10.out hb)
      clear hb HB10
      go_wp2_with fail
      go_ret
      exact ⟨rfl, HB11.out⟩
    · have hos := HOS.out
      rw [if_neg hf] at hos
      have HOP := Lib.hid hos
      clear hos hf HOS HPS
      refine (OpenHead_gen A5 64 c5 _ _ HML.out HO5.out.rd HMY.out (by omega) (by omega)).mono ?_
      rintro e w6 ⟨he, hb⟩
      obtain rfl : e = .returned (.tuple #[.agg #[.int .i64 0, .bool false, .int .i64 0, .int .u32 0], .int .i64 4]) := by rw [he, HOP.out]; rfl
      have HO6 := Lib.hid (HO5.out.below hb (Nat.le_refl _))
      have HB6 := Lib.hid (below_up HB5.out hb)
      clear he hb HO5 HB5
      go_upto_region 6 with (fail)
      generalize hw7 : w6.alloc (.cells #[.int .i64 0, .bool false, .int .i64 0, .int .u32 0] 24) = w7 at *
      have hb7 : Below w6.heap.size w6 w7 := by rw [← hw7]; exact (Below.refl _ _).alloc (Nat.le_refl _) _
      have hc7 : ∀ j : Nat, w7.cell? ⟨w6.heap.size, j, none⟩ = (#[.int .i64 0, .bool false, .int .i64 0, .int .u32 0] : Array Value)[j]? := fun j => by rw [← hw7]; exact cell_new _ _ _ _
      have hlt7 : w6.heap.size < w7.heap.size := by rw [← hw7]; simp
      have HB7 := Lib.hid (below_up HB6.out hb7)
      have HO7 := Lib.hid (HO6.out.below hb7 (Nat.le_refl _))
      have HC7 := Lib.hid hc7
      clear hw7 hb7 hc7 HB6 HO6
      go_wp2_with fail
      refine (RefOpen_gen A5 64 c5 _ _ HML.out HO7.out.rd HMY.out (by omega) (by omega)).mono ?_
      rintro e w8 ⟨he, hb⟩
      obtain rfl : e = .returned (.tuple #[.agg #[.int .i64 0, .bool false, .int .i64 0, .int .u32 0], .int .i64 4]) := by rw [he, HOP.out]; rfl
      have HB8 := Lib.hid (below_up HB7.out hb)
      have m0 := (hb.cell (p := ⟨w6.heap.size, 0, none⟩) hlt7).trans (HC7.out 0)
      have m1 := (hb.cell (p := ⟨w6.heap.size, 1, none⟩) hlt7).trans (HC7.out 1)
      have m2 := (hb.cell (p := ⟨w6.heap.size, 2, none⟩) hlt7).trans (HC7.out 2)
      have m3 := (hb.cell (p := ⟨w6.heap.size, 3, none⟩) hlt7).trans (HC7.out 3)
      simp at m0 m1 m2 m3
      clear he hb HO7 HB7 HC7
      go_upto_region 7 with (fail)
      generalize hw9 : w8.alloc (.cells #[.int .i64 0, .bool false, .int .i64 0, .int .u32 0] 24) = w9 at *
      have hb9 : Below w8.heap.size w8 w9 := by rw [← hw9]; exact (Below.refl _ _).alloc (Nat.le_refl _) _
      have s0 := (hb9.cell (p := ⟨w6.heap.size, 0, none⟩) (World.block_lt_of_cell? _ _ m0)).trans m0
      have s1 := (hb9.cell (p := ⟨w6.heap.size, 1, none⟩) (World.block_lt_of_cell? _ _ m1)).trans m1
      have s2 := (hb9.cell (p := ⟨w6.heap.size, 2, none⟩) (World.block_lt_of_cell? _ _ m2)).trans m2
      have s3 := (hb9.cell (p := ⟨w6.heap.size, 3, none⟩) (World.block_lt_of_cell? _ _ m3)).trans m3
      have HB9 := Lib.hid (below_up HB8.out hb9)
      clear hw9 hb9 m0 m1 m2 m3 HB8
      go_wp2_with fail
      go_ret
      exact ⟨rfl, HB9.out⟩
  · have h1 : ((n : Int) != 60) = true := by simp; omega
    have h2 : ((n : Int) == 60) = false := by simp; omega
    clear hl hr hy
    go_enter Try.func4, Try.ntmps4
    go_wp2_with fail
    refine (awake_any _).mono ?_
    rintro e w1 ⟨rfl, hb⟩
    have HB1 := Lib.hid hb
    clear hb
    go_wp2_with fail
    refine (awake_any _).mono ?_
    rintro e w2 ⟨rfl, hb⟩
    have HB2 := Lib.hid (below_up HB1.out hb)
    clear hb
    go_wp2_with fail
    go_ret
    exact ⟨rfl, HB2.out⟩
end Go.Proofs.Ytkjfbgjbifdbjaa
