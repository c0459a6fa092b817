/-
  What Slot answers; the document's example.
-/
import Derived.Test.YtkjfbgjbifdbjaaWalkl
import Derived.Test.YtkjfbgjbifdbjaaWalke
namespace Go.Proofs.Ytkjfbgjbifdbjaa
open Go.RowKit
def slotOf (body k : Int) : Int := 64 * (1 + (body + 63) / 64 + k)
theorem Slot_yes (body k : Int) (w : World) (h0 : 0 ≤ body) (h1 : body ≤ 2147483647) (h2 : 0 ≤ k) (h3 : k ≤ 64) :
    Calls Try.prog 18 #[.int .i64 body, .int .i64 k] w fun e w' => e = .returned (.tuple #[.int .i64 (slotOf body k), .int .i64 0]) ∧ w = w' := by
  have E : Hid (64 * (1 + (body + 64 - 1) / 64 + k) = slotOf body k) := Lib.hid (by unfold slotOf; omega)
  go_enter Try.func18, Try.ntmps18
  go_wp2_with fail
  rw [← E.out]
  go_ret2
  exact ⟨rfl, rfl⟩
theorem Slot_no (body k : Int) (w : World) (h : body < 0 ∨ 2147483647 < body ∨ k < 0 ∨ 64 < k) :
    Calls Try.prog 18 #[.int .i64 body, .int .i64 k] w fun e w' => e = .returned (.tuple #[.int .i64 0, .int .i64 1]) ∧ w = w' := by
  by_cases a : body < 0
  · clear h
    go_enter Try.func18, Try.ntmps18
    go_wp2_with fail
    go_ret2
    exact ⟨rfl, rfl⟩
  · by_cases b : 2147483647 < body
    · clear h
      go_enter Try.func18, Try.ntmps18
      go_wp2_with fail
      go_ret2
      exact ⟨rfl, rfl⟩
    · by_cases c : k < 0
      · clear h
        go_enter Try.func18, Try.ntmps18
        go_wp2_with fail
        go_ret2
        exact ⟨rfl, rfl⟩
      · have d : 64 < k := by omega
        clear h
        go_enter Try.func18, Try.ntmps18
        go_wp2_with fail
        go_ret2
        exact ⟨rfl, rfl⟩
def hdX : Hd := ⟨1, true, 80, 5⟩
set_option maxRecDepth 20000 in
set_option maxHeartbeats 2000000 in
theorem awake_any (w : World) : Calls Try.prog 9 #[] w fun e w' => e = .returned (.bool true) ∧ Below w.heap.size w w' := by
  have HX := Lib.hid (open_pack hdX ⟨by decide, by decide, by decide, by decide⟩ ⟨by decide, by decide⟩)
  go_enter Try.func9, Try.ntmps9
  go_wp2_with fail
  refine (PackHead_yes 1 80 5 true _ (by omega) (by omega) (by omega) (by omega) (by omega) (by omega)).mono ?_
  rintro e w1 ⟨⟨g, c, rfl, hO⟩, hb⟩
  have HO := Lib.hid hO
  have HB := Lib.hid hb
  have hc := hO.cap
  unfold maxLen at hc
  clear hO hb
  go_wp2_with fail
  refine (OpenHead_any g 0 c _ (packL hdX) (pack_length _) HO.out.rd (pack_bytes _) hc.1 (by omega)).mono ?_
  rintro e w2 ⟨he, hb⟩
  obtain rfl : e = .returned (.tuple #[.agg #[.int .i64 1, .bool true, .int .i64 80, .int .u32 5], .int .i64 0]) := by rw [he, HX.out]; rfl
  clear he
  have HB2 := Lib.hid (below_up HB.out hb)
  have HR := Lib.hid (HO.out.rd.up hb)
  have ho := HO.out.below hb (Nat.le_refl _)
  have HO2 := Lib.hid ho
  have hg := ho.base_le
  clear hb HB
  have hsl : slotOf 80 0 = 192 := by decide
  have HSL := Lib.hid hsl
  clear hsl
  go_wp2_with fail
  refine (Slot_yes 80 0 _ (by omega) (by omega) (by omega) (by omega)).mono ?_
  rintro e w3 ⟨he, rfl⟩
  rw [HSL.out] at he
  subst he
  have hb3 : Below w2.heap.size w2 (w2.alloc (.cells #[.int .i64 1, .bool true, .int .i64 80, .int .u32 5] 24)) := (Below.refl _ _).alloc (Nat.le_refl _) _
  have hh0 : (w2.alloc (.cells #[.int .i64 1, .bool true, .int .i64 80, .int .u32 5] 24)).cell? ⟨w2.heap.size, 0, none⟩ = some (.int .i64 1) := by rw [cell_new]; rfl
  generalize w2.alloc (.cells #[.int .i64 1, .bool true, .int .i64 80, .int .u32 5] 24) = w3 at *
  have hr3 := HR.out.up hb3
  have ho3 := HO2.out.below hb3 (Nat.le_refl _)
  have HB3 := Lib.hid (below_up HB2.out hb3)
  have hr8 : RdB w3 w3.heap.size (some ⟨g, 0, none⟩) ((packL ⟨1, true, 80, 5⟩).take 8) := by simpa using hr3.piece 0 8
  obtain ⟨S, hS1, hS2⟩ := str_of w3 ⟨g, 0, none⟩ 8 c _ rfl (bytes_take (pack_bytes _) 8) (RdB.cells hr8)
  have hst : S.toList = [111, 99, 116, 97, 118, 111, 45, 106] := hS2.2 rfl
  have q8 := ho3.cell 8 (by omega) 1 rfl
  have q12 := ho3.cell 12 (by omega) 1 rfl
  have q13 := ho3.cell 13 (by omega) 80 rfl
  have q17 := ho3.cell 17 (by omega) 5 rfl
  clear hS2 hr8 hr3 ho3 hb3
  go_wp2_with (rw [hS1])
  go_ret
  exact ⟨rfl, HB3.out⟩
end Go.Proofs.Ytkjfbgjbifdbjaa
