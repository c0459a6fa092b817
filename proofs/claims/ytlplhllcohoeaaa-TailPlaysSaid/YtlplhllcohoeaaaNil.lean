/-
  The document's example, and that the law TailNil returns true.
-/
import Derived.Test.YtlplhllcohoeaaaTl
import Derived.Lib.SlBytesConst
namespace Go.Proofs.Ytlplhllcohoeaaa
open Go.RowKit Go.Maps Go.ChangeMaps Go.MapKept
theorem rd_marked (W : World) (l : List Int) (C : Array Value) (hC : C.toList = bcells l) (z : Nat × Nat) : RdB (W.alloc (.cells C 5 z)) (W.alloc (.cells C 5 z)).heap.size (some ⟨W.heap.size, 0, none⟩) l := by
  intro k v hv
  refine ⟨W.heap.size, 0, rfl, by simp, ?_⟩
  rw [Nat.zero_add, cell_of_row _ _ _ _ _ _ (heap_alloc_new W _), ← Array.getElem?_toList, hC, bcells_get, hv]
  rfl
theorem FM.look_a {w : World} {mb : Nat} (h : FM w mb none) : (Instr.lookup 56 (.map (some mb)) (.string ⟨#[97]⟩) false).run Try.prog w = .ok (.pointer none) w := by
  obtain ⟨v, ps, hrun, hv⟩ := World.ownsMap.lookup h (string_keyed tk) tm (tz w) (rp_ptr none) (Go.WideMaps.keyOf_string_mk tk (s := ⟨#[97]⟩) (by decide))
  rw [hrun, rp_inv (F := none) hv]
  rfl
section
variable {db mb tb : Nat} {d : Dv} {lo : Int} {N : Nat} {S : Nat → Prop} {F : Option Nat} {Ap : Option Addr} {np cp : Nat} {ps : List (Int × Value)}
theorem may_a (w : World) (h : Dk w db mb d lo N S none Ap np cp ps) (hd : d.down = false) :
    Calls Try.prog 28 #[.pointer (some ⟨db, 0, none⟩), .string ⟨#[97]⟩, .bool false] w fun e w' => e = .returned (.tuple #[.pointer none, .int .i64 0]) ∧ w = w' := by
  obtain ⟨_, _, _, _, c4, c5, _⟩ := h.cells
  have L1 := h.map.look_a
  rw [hd] at c4
  clear h
  go_enter Try.func28, Try.ntmps28
  go_wp2_with fail
  refine (named_a _).mono ?_
  rintro e w1 ⟨rfl, rfl⟩
  go_wp2_with fail
  go_ret2
  exact ⟨rfl, rfl⟩
theorem Write_a (w : World) (h : Dk w db mb d lo N S none Ap np cp ps) (hd : d.down = false) (ha : d.armed = true) (hl : d.left = 0) (hr : 1 ≤ d.room) (A : Option Addr) (c : Nat) :
    Calls Try.prog 17 #[.pointer (some ⟨db, 0, none⟩), .string ⟨#[97]⟩, .int .i64 0, .slice A 1 c] w fun e w' => e = .returned (.int .i64 8) ∧ Dk w' db mb { d with down := true } lo N S none Ap np cp ps ∧ Fr w w' S S := by
  have hm := may_a w h hd
  have hft := fits_none w h 1 (by omega) (by omega)
  rw [show fitE d 1 = 0 from if_neg (fun h => by omega)] at hft
  have HH := Lib.hid h
  clear h
  go_enter Try.func17, Try.ntmps17
  go_wp2_with fail
  refine hm.mono ?_
  rintro e w1 ⟨rfl, rfl⟩
  clear hm
  go_wp2_with fail
  refine hft.mono ?_
  rintro e w1 ⟨rfl, hbb⟩
  have HD1 := Lib.hid (HH.out.up hbb)
  have HB1 := Lib.hid hbb
  clear hft hbb
  go_wp2_with fail
  refine (change_off w1 HD1.out ha hl).mono ?_
  rintro e w2 ⟨rfl, hd2, hf2⟩
  have HD2 := Lib.hid hd2
  have HF2 := Lib.hid hf2
  clear hd2 hf2
  go_wp2_with fail
  go_ret
  exact ⟨rfl, HD2.out, (Fr.of_below HB1.out).trans HF2.out⟩
end
theorem Dk.settb {w : World} {db mb : Nat} {d : Dv} {lo : Int} {N : Nat} {S : Nat → Prop} {F : Option Nat} {Ap : Option Addr} {np cp : Nat} {ps : List (Int × Value)} {tb : Nat} (h : Dk w db mb d lo N S F Ap np cp ps) (hS : ¬ S tb) (v : Value) : Dk (w.setCell ⟨tb, 1, none⟩ v) db mb d lo N S F Ap np cp ps :=
  h.keep (by simp) (fun g hg => heap_setCell_other _ _ _ _ (fun e => hS (by have e' : g = tb := e; rw [← e']; exact hg)))
theorem only_below {w w' : World} {S : Nat → Prop} {B : Nat} (h : Only w w' S) (hB : B ≤ w.heap.size) (hS : ∀ g, S g → B ≤ g) : Below B w w' :=
  ⟨h.os, h.tape, h.output, h.size, fun g hg => h.rest g (by omega) (fun hx => by have := hS g hx; omega)⟩
theorem str_bc (w : World) (g c : Nat) (hr : RdB w w.heap.size (some ⟨g, 0, none⟩) [98, 99]) : (convert 22 9 (.slice (some ⟨g, 0, none⟩) 2 c)).run Try.prog w = .ok (.string ⟨#[98, 99]⟩) w := by
  have hrun := run_convert_bytes_back (P := Try.prog) w 22 9 5 ⟨g, 0, none⟩ c [98, 99] Try.underlying22 Try.underlying5 Try.underlying9 (fun j hj => by
    refine hr.cells' ⟨g, 0, none⟩ rfl j _ ?_
    have : j = 0 ∨ j = 1 := by simp at hj; omega
    rcases this with rfl | rfl <;> rfl)
  exact hrun
theorem layL_ab : layL (layL [] 0 [97, 98]) 2 [99] = [97, 98, 99] := by decide
set_option maxRecDepth 40000 in
set_option maxHeartbeats 1000000 in
theorem awake_any (w : World) : Calls Try.prog 7 #[] w fun e w' => e = .returned (.bool true) ∧ Below w.heap.size w w' := by
  go_enter Try.func7, Try.ntmps7
  go_wp2_with fail
  refine (New_any w 100 (by omega) (by omega) 0).mono ?_
  rintro e w1 ⟨db, mb, rfl, hd1, l1, l2, hb1⟩
  have HD1 := Lib.hid hd1
  have HB1 := Lib.hid hb1
  have hs1 := hb1.size
  clear hd1 hb1
  go_wp2_with fail
  refine (Open_all w1 HD1.out rfl 0 (by decide) (by omega)).mono ?_
  rintro e w2 ⟨rfl, ht2, hb2⟩
  have HT2 := Lib.hid ht2
  have HD2 := Lib.hid (HD1.out.up hb2)
  have HB2 := Lib.hid (below_up HB1.out hb2)
  have hs2 := hb2.size
  have hlt2 := ht2.lt
  clear ht2 hb2
  have kc : (convert 22 22 (.slice (some ⟨w2.heap.size, 0, none⟩) 2 2)).run Try.prog (w2.alloc (.cells #[.int .u8 97, .int .u8 98] 5)) = .ok (.slice (some ⟨w2.heap.size, 0, none⟩) 2 2) (w2.alloc (.cells #[.int .u8 97, .int .u8 98] 5 (2, 3))) := by
    have := Lib.run_convert_bytes_const (P := Try.prog) w2 22 5 #[.int .u8 97, .int .u8 98] 2 2 Try.underlying22 Try.underlying5
    simpa using this
  have HRD := Lib.hid (rd_marked w2 [97, 98] #[.int .u8 97, .int .u8 98] rfl (2, 3))
  have hb3 : Below w2.heap.size w2 (w2.alloc (.cells #[.int .u8 97, .int .u8 98] 5 (2, 3))) := (Below.refl _ _).alloc (Nat.le_refl _) _
  have HB3 := Lib.hid hb3
  have hs3 : (w2.alloc (.cells #[.int .u8 97, .int .u8 98] 5 (2, 3))).heap.size = w2.heap.size + 1 := by simp
  clear hb3
  have hS1 : ∀ g, (g = mb ∨ g = db) → w.heap.size ≤ g := fun g hg => by omega
  have hntb : ¬ (w1.heap.size = mb ∨ w1.heap.size = db) := fun hx => by
    have h1 := HD1.out.lt mb (.inl rfl)
    have h2 := HD1.out.lt db (.inr rfl)
    omega
  have HS1 := Lib.hid hS1
  have HNT := Lib.hid hntb
  clear hS1 hntb
  go_wp2_with fail
  clear kc
  generalize w2.alloc (.cells #[.int .u8 97, .int .u8 98] 5 (2, 3)) = w3 at *
  have HD3 := Lib.hid (HD2.out.up HB3.out)
  have hW1 := (Write_new w3.drew (HD3.out.drewN 1) rfl (some ⟨w2.heap.size, 0, Option.none⟩) 2 2 [97, 98] (by omega) (by omega) rfl (by omega) HRD.out (fun a e hx => by
    cases e
    have h1 := HD2.out.lt _ hx
    simp only at h1; omega) (by omega) (by omega) (by decide) (by decide)).mono (fun e w' (h : _ ∧ (∃ fb Ap np cp ps, Dk w' db mb ((nu 100).wrote 0 [97, 98]) 0 (0 + 2 + 2) (Sx (fun g => g = mb ∨ g = db) w3.drew w') (some fb) Ap np cp ps) ∧ Only w3.drew w' (fun g => g = mb ∨ g = db)) => h)
  refine (Append_walk w3 0 2 2 (some ⟨w2.heap.size, 0, Option.none⟩) (HT2.out.up HB3.out) (by omega) _ HNT.out hW1).mono ?_
  clear hW1
  rintro e w4 ⟨rfl, w4a, ⟨fb, Ap, np, cp, ps, hd4⟩, ho4, hw4, ht4⟩
  have hs4 : w3.heap.size ≤ w4a.heap.size := ho4.size
  have hs44 : w4.heap.size = w4a.heap.size := by rw [hw4]; simp
  have hnS : ¬ Sx (fun g => g = mb ∨ g = db) w3.drew w4a w1.heap.size := fun hx => by
    rcases hx with hx | hx
    · exact HNT.out hx
    · have h1 : w3.heap.size ≤ w1.heap.size := hx.1
      omega
  have HD4 : Hid (Dk w4 db mb ((nu 100).wrote 0 [97, 98]) 0 (0 + 2 + 2) (Sx (fun g => g = mb ∨ g = db) w3.drew w4a) (some fb) Ap np cp ps) := Lib.hid (by rw [hw4]; exact hd4.settb hnS _)
  have HB4 : Hid (Below w.heap.size w w4) := Lib.hid (by
    have h1 : Below w.heap.size w w3 := below_up HB2.out HB3.out
    have h2 : Below w.heap.size w3.drew w4a := only_below ho4 (by have := h1.size; exact this) HS1.out
    have h3 := (h1.trans (belowDrewN (Below.refl w.heap.size w3) 1)).trans h2
    rw [hw4]
    exact h3.setCell (by show w.heap.size ≤ w1.heap.size; omega) _)
  have HT4 := Lib.hid ht4
  have HNS := Lib.hid hnS
  have HLO : Hid (∀ g, Sx (fun g => g = mb ∨ g = db) w3.drew w4a g → w.heap.size ≤ g) := Lib.hid (fun g hx => by
    rcases hx with hx | hx
    · exact HS1.out g hx
    · have h1 : w3.heap.size ≤ g := hx.1
      have := HB2.out.size; have := HB3.out.size; omega)
  generalize Sx (fun g => g = mb ∨ g = db) w3.drew w4a = S4 at *
  have hs45 : w3.heap.size ≤ w4.heap.size := by omega
  clear hd4 ho4 hw4 ht4 hnS hs44 hs4
  have kc : (convert 22 22 (.slice (some ⟨w4.heap.size, 0, none⟩) 1 1)).run Try.prog (w4.alloc (.cells #[.int .u8 99] 5)) = .ok (.slice (some ⟨w4.heap.size, 0, none⟩) 1 1) (w4.alloc (.cells #[.int .u8 99] 5 (1, 2))) := by
    have := Lib.run_convert_bytes_const (P := Try.prog) w4 22 5 #[.int .u8 99] 1 1 Try.underlying22 Try.underlying5
    simpa using this
  have HRD5 := Lib.hid (rd_marked w4 [99] #[.int .u8 99] rfl (1, 2))
  have hb5 : Below w4.heap.size w4 (w4.alloc (.cells #[.int .u8 99] 5 (1, 2))) := (Below.refl _ _).alloc (Nat.le_refl _) _
  have HB5 := Lib.hid hb5
  have hs5 : (w4.alloc (.cells #[.int .u8 99] 5 (1, 2))).heap.size = w4.heap.size + 1 := by simp
  clear hb5
  go_wp2_with fail
  clear kc
  generalize w4.alloc (.cells #[.int .u8 99] 5 (1, 2)) = w5 at *
  have HD5 := Lib.hid (HD4.out.up HB5.out)
  have hW2 := (Write_file w5.drew (HD5.out.drewN 1) rfl 2 (by decide) (some ⟨w4.heap.size, 0, Option.none⟩) 1 1 [99] (by omega) (by omega) rfl (by omega) HRD5.out (fun a e hx => by
    cases e
    have h1 := HD4.out.lt _ hx
    simp only at h1; omega) (by omega) (by omega) (by decide) (by decide)).mono (fun e w' (h : _ ∧ (∃ Ap np cp ps, Dk w' db mb (((nu 100).wrote 0 [97, 98]).wrote 2 [99]) 0 (0 + 2 + 2 + 1 + 2) (Sx S4 w5.drew w') (some fb) Ap np cp ps) ∧ Only w5.drew w' S4) => h)
  refine (Append_walk w5 2 1 1 (some ⟨w4.heap.size, 0, Option.none⟩) (HT4.out.up HB5.out) (by omega) _ HNS.out hW2).mono ?_
  clear hW2
  rintro e w6 ⟨rfl, w6a, ⟨Ap6, np6, cp6, ps6, hd6⟩, ho6, hw6, ht6⟩
  have hs6 : w5.heap.size ≤ w6a.heap.size := ho6.size
  have hnS : ¬ Sx S4 w5.drew w6a w1.heap.size := fun hx => by
    rcases hx with hx | hx
    · exact HNS.out hx
    · have h1 : w5.heap.size ≤ w1.heap.size := hx.1
      omega
  have HD6 : Hid (Dk w6 db mb (((nu 100).wrote 0 [97, 98]).wrote 2 [99]) 0 (0 + 2 + 2 + 1 + 2) (Sx S4 w5.drew w6a) (some fb) Ap6 np6 cp6 ps6) := Lib.hid (by rw [hw6]; exact hd6.settb hnS _)
  have HB6 : Hid (Below w.heap.size w w6) := Lib.hid (by
    have h1 : Below w.heap.size w w5 := below_up HB4.out HB5.out
    have h2 : Below w.heap.size w5.drew w6a := only_below ho6 (by have := h1.size; exact this) HLO.out
    have h3 := (h1.trans (belowDrewN (Below.refl w.heap.size w5) 1)).trans h2
    rw [hw6]
    exact h3.setCell (by show w.heap.size ≤ w1.heap.size; omega) _)
  have HT6 := Lib.hid ht6
  clear hd6 ho6 hw6 ht6 hnS
  have hR := (Read_file w6 HD6.out rfl ⟨[97, 98, 99], [], false⟩ (by unfold Dv.wrote nu; simp only [layL_ab]) 1 2 (by omega) (by decide)).mono (fun e w' (h : (∃ g c, e = .returned (.tuple #[.slice (some ⟨g, 0, Option.none⟩) 2 c, .int .i64 0]) ∧ OwnB w' w6.heap.size (some ⟨g, 0, Option.none⟩) 2 c [98, 99]) ∧ Below w6.heap.size w6 w') => (show ∃ x, e = .returned (.tuple #[x, .int .i64 0]) ∧ (∃ g c, x = .slice (some ⟨g, 0, Option.none⟩) 2 c ∧ OwnB w' w6.heap.size (some ⟨g, 0, Option.none⟩) 2 c [98, 99] ∧ Below w6.heap.size w6 w') from by
    obtain ⟨⟨g, c, he, ho⟩, hb⟩ := h
    exact ⟨_, he, g, c, rfl, ho, hb⟩))
  go_wp2_with fail
  refine (TRead_walk w6 3 1 2 HT6.out (by omega) (by omega) (by omega) (fun x w' => ∃ g c, x = .slice (some ⟨g, 0, Option.none⟩) 2 c ∧ OwnB w' w6.heap.size (some ⟨g, 0, Option.none⟩) 2 c [98, 99] ∧ Below w6.heap.size w6 w') hR).mono ?_
  clear hR
  rintro e w7 ⟨x, rfl, g7, c7, rfl, hO7, hb7⟩
  have HB7 := Lib.hid (HB6.out.trans (hb7.mono HB6.out.size))
  have HT7 := Lib.hid (HT6.out.up hb7)
  have kb := str_bc w7 g7 c7 hO7.rd
  clear hO7 hb7
  go_wp2_with (rw [kb])
  refine (Len_any w7 _ HT7.out).mono ?_
  rintro e w8 ⟨rfl, rfl⟩
  go_wp2_with fail
  go_ret
  exact ⟨rfl, HB7.out⟩
set_option maxRecDepth 100000 in
theorem nil_walk (n : Int) (w : World) : Calls Try.prog 4 #[.int .i64 n] w fun e w' => e = .returned (.bool true) ∧ Below w.heap.size w w' := by
  go_enter Try.func4, Try.ntmps4
  go_wp2_with fail
  refine (Append_nil _ _ _ _).mono ?_
  rintro e w1 ⟨rfl, rfl⟩
  go_wp2_with fail
  refine (TRead_nil _ _ _).mono ?_
  rintro e w1 ⟨rfl, rfl⟩
  go_wp2_with fail
  refine (Open_nil _ _).mono ?_
  rintro e w1 ⟨rfl, rfl⟩
  go_wp2_with fail
  refine (New_any w 10 (by omega) (by omega) 0).mono ?_
  rintro e w1 ⟨db, mb, rfl, hd1, l1, l2, hb1⟩
  have HD1 := Lib.hid hd1
  have HB1 := Lib.hid hb1
  have HS1 : Hid (∀ g, (g = mb ∨ g = db) → w.heap.size ≤ g) := Lib.hid (fun g hg => by omega)
  clear hd1 hb1 l1 l2
  go_wp2_with fail
  refine (Arm_any w1 0 (by omega) (by omega) HD1.out).mono ?_
  rintro e w2 ⟨rfl, hd2, hf2⟩
  have HD2 := Lib.hid hd2
  have HB2 : Hid (Below w.heap.size w w2) := Lib.hid (HB1.out.trans (hf2.below HB1.out.size (fun g hg hS => by have := HS1.out g hS; omega)))
  clear hd2 hf2
  have hb3 : Below w2.heap.size w2 (w2.alloc (.cells #[.int .u8 1] 5)) := (Below.refl _ _).alloc (Nat.le_refl _) _
  have HB3 := Lib.hid hb3
  clear hb3
  go_wp2_with fail
  have HD3 := Lib.hid (HD2.out.up HB3.out)
  have HB4 := Lib.hid (below_up HB2.out HB3.out)
  refine (Write_a _ HD3.out rfl rfl rfl (by decide) _ _).mono ?_
  rintro e w4 ⟨rfl, hd4, hf4⟩
  have HD4 := Lib.hid hd4
  have HB5 : Hid (Below w.heap.size w w4) := Lib.hid (HB4.out.trans (hf4.below HB4.out.size (fun g hg hS => by have := HS1.out g hS; omega)))
  clear hd4 hf4
  go_wp2_with fail
  refine (Open_down w4 HD4.out rfl 0 (by omega) (by omega)).mono ?_
  rintro e w5 ⟨rfl, rfl⟩
  go_wp2_with fail
  refine (awake_any _).mono ?_
  rintro e w5 ⟨rfl, hb6⟩
  have HB6 := Lib.hid (below_up HB5.out hb6)
  clear hb6
  go_wp2_with fail
  refine (Len_nil _).mono ?_
  rintro e w6 ⟨rfl, rfl⟩
  go_wp2_with fail
  refine (Back_nil _ _).mono ?_
  rintro e w6 ⟨rfl, rfl⟩
  go_wp2_with fail
  refine (Sync_nil _).mono ?_
  rintro e w6 ⟨rfl, rfl⟩
  go_wp2_with fail
  go_ret
  exact ⟨rfl, HB6.out⟩
end Go.Proofs.Ytlplhllcohoeaaa
