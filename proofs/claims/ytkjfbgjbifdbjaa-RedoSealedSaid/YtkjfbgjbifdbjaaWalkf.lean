/-
  What the reference's PackHead makes.
-/
import Derived.Test.YtkjfbgjbifdbjaaPlain
import Derived.Lib.SlBytesConst
import Derived.ArgAppend
namespace Go.Proofs.Ytkjfbgjbifdbjaa
open Go.RowKit
def room60 (v : Value) : Nat := match v with | .slice _ n _ => 60 - n | _ => 0
theorem dv4 {n : Int} (h0 : 0 ≤ n) (h1 : n < 4294967296) : dv 4 n = 0 := by simp only [dv]; omega
theorem rd_letters_marked (w : World) (m : Nat × Nat) : RdB (w.alloc (.cells #[.int .u8 111, .int .u8 99, .int .u8 116, .int .u8 97, .int .u8 118, .int .u8 111, .int .u8 45, .int .u8 106] 5 m)) (w.alloc (.cells #[.int .u8 111, .int .u8 99, .int .u8 116, .int .u8 97, .int .u8 118, .int .u8 111, .int .u8 45, .int .u8 106] 5 m)).heap.size (some ⟨w.heap.size, 0, none⟩) lettersL := by
  intro k v hv
  refine ⟨_, 0, rfl, by simp, ?_⟩
  rw [Nat.zero_add, cell_of_row _ _ _ _ _ _ (heap_alloc_new w _)]
  have e : (#[Value.int .u8 111, .int .u8 99, .int .u8 116, .int .u8 97, .int .u8 118, .int .u8 111, .int .u8 45, .int .u8 106] : Array Value)[k]? = (bcells lettersL)[k]? := by
    rw [← Array.getElem?_toList]; rfl
  rw [e, bcells_get, hv]; rfl
theorem pre_take (h : Hd) (k : Nat) (_hk : k < 39) : headL h ++ List.replicate k 0 ++ [0] = headL h ++ List.replicate (k+1) 0 := by
  rw [List.append_assoc, List.replicate_succ']
set_option maxRecDepth 20000 in
set_option maxHeartbeats 2000000 in
theorem RefPack_yes (wave body sum : Int) (ready : Bool) (w : World) (h0 : 0 ≤ wave) (h1 : wave ≤ 2147483647) (h2 : 0 ≤ body) (h3 : body ≤ 2147483647) (h4 : 0 ≤ sum) (h5 : sum ≤ 4294967295) :
    Calls Try.prog 8 #[.agg #[.int .i64 wave, .bool ready, .int .i64 body, .int .u32 sum]] w fun e w' => (∃ g c, e = .returned (.tuple #[.slice (some ⟨g, 0, none⟩) 64 c, .int .i64 0]) ∧ OwnB w' w.heap.size (some ⟨g, 0, none⟩) 64 c (packL ⟨wave, ready, body, sum⟩)) ∧ Below w.heap.size w w' := by
  obtain ⟨i0, hi, hy0, hy1, hy2⟩ := info_parts info5
  have kc : (convert 25 25 (.slice (some ⟨w.heap.size + 1, 0, none⟩) 8 8)).run Try.prog ((w.alloc (.cells #[.int .i64 wave, .bool ready, .int .i64 body, .int .u32 sum] 24)).alloc (.cells #[.int .u8 111, .int .u8 99, .int .u8 116, .int .u8 97, .int .u8 118, .int .u8 111, .int .u8 45, .int .u8 106] 5)) = .ok (.slice (some ⟨w.heap.size + 1, 0, none⟩) 8 8) ((w.alloc (.cells #[.int .i64 wave, .bool ready, .int .i64 body, .int .u32 sum] 24)).alloc (.cells #[.int .u8 111, .int .u8 99, .int .u8 116, .int .u8 97, .int .u8 118, .int .u8 111, .int .u8 45, .int .u8 106] 5 (8, 9))) := by
    have := Lib.run_convert_bytes_const (P := Try.prog) (w.alloc (.cells #[.int .i64 wave, .bool ready, .int .i64 body, .int .u32 sum] 24)) 25 5 #[.int .u8 111, .int .u8 99, .int .u8 116, .int .u8 97, .int .u8 118, .int .u8 111, .int .u8 45, .int .u8 106] 8 8 Try.underlying25 Try.underlying5
    simpa using this
  have hb0 : Below w.heap.size w ((w.alloc (.cells #[.int .i64 wave, .bool ready, .int .i64 body, .int .u32 sum] 24)).alloc (.cells #[.int .u8 111, .int .u8 99, .int .u8 116, .int .u8 97, .int .u8 118, .int .u8 111, .int .u8 45, .int .u8 106] 5 (8, 9))) := ((Below.refl _ _).alloc (Nat.le_refl _) _).alloc (by simp) _
  have hbx : ∀ j, ((w.alloc (.cells #[.int .i64 wave, .bool ready, .int .i64 body, .int .u32 sum] 24)).alloc (.cells #[.int .u8 111, .int .u8 99, .int .u8 116, .int .u8 97, .int .u8 118, .int .u8 111, .int .u8 45, .int .u8 106] 5 (8, 9))).cell? ⟨w.heap.size, j, none⟩ = (#[.int .i64 wave, .bool ready, .int .i64 body, .int .u32 sum] : Array Value)[j]? := fun j => by
    rw [World.cell?_alloc_lt _ _ _ (by simp), cell_new]
  have hrd := rd_letters_marked (w.alloc (.cells #[.int .i64 wave, .bool ready, .int .i64 body, .int .u32 sum] 24)) (8, 9)
  rw [show (w.alloc (.cells #[.int .i64 wave, .bool ready, .int .i64 body, .int .u32 sum] 24)).heap.size = w.heap.size + 1 by simp] at hrd
  have hsz0 : ((w.alloc (.cells #[.int .i64 wave, .bool ready, .int .i64 body, .int .u32 sum] 24)).alloc (.cells #[.int .u8 111, .int .u8 99, .int .u8 116, .int .u8 97, .int .u8 118, .int .u8 111, .int .u8 45, .int .u8 106] 5 (8, 9))).heap.size = w.heap.size + 2 := by simp
  have HB0 := Lib.hid hb0; have HBX := Lib.hid hbx; have HRD := Lib.hid hrd; have HSZ := Lib.hid hsz0
  clear hb0 hbx hrd hsz0
  go_enter Try.func8, Try.ntmps8
  go_wp2_with fail
  generalize (w.alloc (.cells #[.int .i64 wave, .bool ready, .int .i64 body, .int .u32 sum] 24)).alloc (.cells #[.int .u8 111, .int .u8 99, .int .u8 116, .int .u8 97, .int .u8 118, .int .u8 111, .int .u8 45, .int .u8 106] 5 (8, 9)) = w1 at *
  have c0 : w1.cell? ⟨w.heap.size, 0, none⟩ = some (.int .i64 wave) := HBX.out 0
  refine (number_any wave 4 _ h0 (by omega) (by omega) (by omega) (dv4 h0 (by omega))).mono ?_
  rintro e wn ⟨⟨gn, cn, rfl, hOn⟩, hb⟩
  have HN := Lib.hid hOn
  have HRD2 := Lib.hid (HRD.out.up hb)
  have HBn := Lib.hid hb
  clear hOn hb c0
  go_wp2_with (at_builtin; refine wpList_append_grows wn rfl _ _ 25 rfl 5 i0 _ 1 1 Try.underlying25 hi hy0 hy1 hy2 rfl (by decide) (some ⟨w.heap.size + 1, 0, none⟩) 8 8 (bcells lettersL) rfl (fun h => by cases h) rfl (HRD2.out.cells') ⟨gn, 0, none⟩ 4 cn (bcells (leB wave 4)) rfl (by simp [bcells, leB]) (RdB.cells HN.out.rd) (bcells_one _) (by omega) (by unfold maxLen; omega) (by omega) ?_)
  intro v' w2 hown' hgrow
  obtain ⟨A2, c2, hv⟩ := ext_of_ownB hown'
  rw [hv] at hown'
  have hnsz := HBn.out.size
  have hO2 : OwnB w2 (w.heap.size + 2) A2 12 c2 (lettersL ++ leB wave 4) := (show OwnB w2 wn.heap.size A2 12 c2 (lettersL ++ leB wave 4) from ⟨by simp [lettersL, leB], by simpa [bcells] using hown'⟩).mono (by have := HSZ.out; omega)
  have HO2 := Lib.hid hO2
  have HB2 : Hid (Below (w.heap.size + 2) w1 w2) := Lib.hid ((HBn.out.mono (by have := HSZ.out; omega)).grown hgrow (by have := HSZ.out; omega) (fun k h => by cases h))
  have hz2' : w.heap.size + 2 ≤ w2.heap.size := by have := hgrow.size; have := HSZ.out; omega
  have hz2 := hz2'
  rw [hv]
  clear hown' hgrow hv hO2 hnsz
  have c1 : w2.cell? ⟨w.heap.size, 1, none⟩ = some (.bool ready) := (HB2.out.cell (p := ⟨w.heap.size, 1, none⟩) (by simp)).trans (HBX.out 1)
  go_upto_if 31 with (fail)
  go_cut [4] (fun b wx => ∃ A c, b = .slice A 13 c ∧ OwnB wx (w.heap.size + 2) A 13 c (lettersL ++ leB wave 4 ++ leB (bit ready) 1) ∧ Below (w.heap.size + 2) w1 wx ∧ w.heap.size + 2 ≤ wx.heap.size)
  case first =>
    cases ready
    · go_wp2_with (at_builtin; refine wpList_append_own _ rfl _ _ 25 rfl (w.heap.size + 2) 5 i0 _ 1 1 Try.underlying25 hi hy0 hy1 hy2 rfl (by decide) _ _ _ rfl (HO2.out.alloc _).2 ⟨w2.heap.size, 0, none⟩ 1 1 (bcells [0]) rfl rfl (newb_one _ _ _ rfl) (bcells_one _) (by unfold maxLen; omega) (by omega) (by simp; omega) ?_)
      intro v' w3 hown' hgrow _
      obtain ⟨⟨A3, c3, hv, hO⟩, hb, _, hz', _⟩ := appB_step HO2.out HB2.out hz2 ((Below.refl _ _).alloc (Nat.le_refl _) _) (m := 1) (K := [0]) rfl hown' hgrow
      have HO3 := Lib.hid hO
      have HB3 := Lib.hid hb
      have hz3 : w.heap.size + 2 ≤ w3.heap.size := by simp at hz'; omega
      rw [hv]
      clear hown' hgrow hv hO hb hz'
      go_wp2_with fail
      go_meet
      exact ⟨A3, c3, rfl, HO3.out, HB3.out, hz3⟩
    · go_wp2_with (at_builtin; refine wpList_append_own _ rfl _ _ 25 rfl (w.heap.size + 2) 5 i0 _ 1 1 Try.underlying25 hi hy0 hy1 hy2 rfl (by decide) _ _ _ rfl (HO2.out.alloc _).2 ⟨w2.heap.size, 0, none⟩ 1 1 (bcells [1]) rfl rfl (newb_one _ _ _ rfl) (bcells_one _) (by unfold maxLen; omega) (by omega) (by simp; omega) ?_)
      intro v' w3 hown' hgrow _
      obtain ⟨⟨A3, c3, hv, hO⟩, hb, _, hz', _⟩ := appB_step HO2.out HB2.out hz2 ((Below.refl _ _).alloc (Nat.le_refl _) _) (m := 1) (K := [1]) rfl hown' hgrow
      have HO3 := Lib.hid hO
      have HB3 := Lib.hid hb
      have hz3 : w.heap.size + 2 ≤ w3.heap.size := by simp at hz'; omega
      rw [hv]
      clear hown' hgrow hv hO hb hz'
      go_wp2_with fail
      go_meet
      exact ⟨A3, c3, rfl, HO3.out, HB3.out, hz3⟩
  case rest =>
  clear c1
  obtain ⟨A3, c3, rfl, hO3, hB3, hz3⟩ := hcut
  have HO3 := Lib.hid hO3; have HB3 := Lib.hid hB3
  have cb : wc.cell? ⟨w.heap.size, 2, none⟩ = some (.int .i64 body) := (HB3.out.cell (p := ⟨w.heap.size, 2, none⟩) (by simp)).trans (HBX.out 2)
  clear hO3 hB3
  go_wp2_with fail
  refine (number_any (body) 4 _ (by omega) (by omega) (by omega) (by omega) (dv4 (by omega) (by omega))).mono ?_
  rintro e wn4 ⟨⟨gn4, cn4, rfl, hOn⟩, hb⟩
  have HN4 := Lib.hid hOn
  have HOb4 := Lib.hid (HO3.out.below hb (Nat.le_refl _))
  have HBb4 := Lib.hid (HB3.out.trans (hb.mono hz3))
  have hzb4 := Nat.le_trans hz3 hb.size
  clear hOn hb
  go_wp2_with (at_builtin; refine wpList_append_own _ rfl _ _ 25 rfl (w.heap.size + 2) 5 i0 _ 1 1 Try.underlying25 hi hy0 hy1 hy2 rfl (by decide) _ _ _ rfl HOb4.out.2 ⟨gn4, 0, none⟩ 4 cn4 (bcells (leB (body) 4)) rfl (by simp [bcells, leB]) (RdB.cells HN4.out.rd) (bcells_one _) (by unfold maxLen; omega) (by omega) (by omega) ?_)
  intro v' w4 hown' hgrow _
  obtain ⟨⟨A4, c4, hv, hO⟩, hb, _, hz', _⟩ := appB_step HOb4.out HBb4.out hzb4 (Below.refl _ _) (m := 4) (K := leB (body) 4) (leB_length _ 4) hown' hgrow
  have HO4 := Lib.hid hO
  have HB4 := Lib.hid hb
  have hz4 := Nat.le_trans hzb4 hz'
  rw [hv]
  clear hown' hgrow hv hO hb hz'
  have cs : w4.cell? ⟨w.heap.size, 3, none⟩ = some (.int .u32 sum) := (HB4.out.cell (p := ⟨w.heap.size, 3, none⟩) (by simp)).trans (HBX.out 3)
  have hws : IntKind.i64.wrap sum = sum := by rw [IntKind.wrap_i64]; omega
  clear cb
  go_wp2_with fail
  refine (number_any (sum) 4 _ (by omega) (by omega) (by omega) (by omega) (dv4 (by omega) (by omega))).mono ?_
  rintro e wn5 ⟨⟨gn5, cn5, rfl, hOn⟩, hb⟩
  have HN5 := Lib.hid hOn
  have HOb5 := Lib.hid (HO4.out.below hb (Nat.le_refl _))
  have HBb5 := Lib.hid (HB4.out.trans (hb.mono hz4))
  have hzb5 := Nat.le_trans hz4 hb.size
  clear hOn hb
  go_wp2_with (at_builtin; refine wpList_append_own _ rfl _ _ 25 rfl (w.heap.size + 2) 5 i0 _ 1 1 Try.underlying25 hi hy0 hy1 hy2 rfl (by decide) _ _ _ rfl HOb5.out.2 ⟨gn5, 0, none⟩ 4 cn5 (bcells (leB (sum) 4)) rfl (by simp [bcells, leB]) (RdB.cells HN5.out.rd) (bcells_one _) (by unfold maxLen; omega) (by omega) (by omega) ?_)
  intro v' w5 hown' hgrow _
  obtain ⟨⟨A5, c5, hv, hO⟩, hb, _, hz', _⟩ := appB_step HOb5.out HBb5.out hzb5 (Below.refl _ _) (m := 4) (K := leB (sum) 4) (leB_length _ 4) hown' hgrow
  have HO5 := Lib.hid hO
  have HB5 := Lib.hid hb
  have hz5 := Nat.le_trans hzb5 hz'
  rw [hv]
  clear hown' hgrow hv hO hb hz'
  clear cs hws
  have HH : Hid (lettersL ++ leB wave 4 ++ leB (bit ready) 1 ++ leB body 4 ++ leB sum 4 = headL ⟨wave, ready, body, sum⟩) := Lib.hid (by simp [headL])
  have HPk : Hid (packL ⟨wave, ready, body, sum⟩ = headL ⟨wave, ready, body, sum⟩ ++ List.replicate 39 0 ++ leB (crcOf (headL ⟨wave, ready, body, sum⟩ ++ List.replicate 39 0)) 4) := Lib.hid rfl
  have HY := Lib.hid (pre_bytes ⟨wave, ready, body, sum⟩)
  have HLn := Lib.hid (pre_length ⟨wave, ready, body, sum⟩)
  have HT := Lib.hid (pre_take ⟨wave, ready, body, sum⟩)
  have HO6 : Hid (OwnB w5 (w.heap.size + 2) A5 21 c5 (headL ⟨wave, ready, body, sum⟩)) := Lib.hid (by rw [← HH.out]; exact HO5.out)
  clear HO5 HO4 HO3 HO2 HN HN4 HN5 HOb4 HOb5 HBb4 HBb5 HB4 HB3 HB2 HBn HRD HRD2 hzb4 hzb5
  go_wp2_with fail
  go_loopw [4] (fun v wr => ∃ (k q c : Nat) (A : Option Addr), k ≤ 39 ∧ q = 21 + k ∧ v = .slice A q c ∧ OwnB wr (w.heap.size + 2) A q c (headL ⟨wave, ready, body, sum⟩ ++ List.replicate k 0) ∧ Below (w.heap.size + 2) w1 wr ∧ w.heap.size + 2 ≤ wr.heap.size) (fun v _ => room60 v)
  case atStart => exact ⟨0, 21, c5, A5, by omega, rfl, rfl, by simpa using HO6.out, HB5.out, hz5⟩
  case round =>
    clear HO6 HB5
    obtain ⟨k, q, c, A, hk, hq, rfl, hO, hb, hz⟩ := hrel
    have HO7 := Lib.hid hO
    have HB7 := Lib.hid hb
    clear hO hb
    by_cases hlt : k < 39
    · have HQ := Lib.hid hq
      have hq60 : q < 60 := by omega
      clear hq
      go_wp2_with (at_builtin; refine wpList_append_own _ rfl _ _ 25 rfl (w.heap.size + 2) 5 i0 _ 1 1 Try.underlying25 hi hy0 hy1 hy2 rfl (by decide) _ _ _ rfl (HO7.out.alloc _).2 ⟨wr.heap.size, 0, none⟩ 1 1 (bcells [0]) rfl rfl (newb_one _ _ _ rfl) (bcells_one _) (by unfold maxLen; omega) (by omega) (by simp; omega) ?_)
      intro v' w8 hown' hgrow _
      obtain ⟨⟨A8, c8, hv, hO⟩, hb, _, hz', _⟩ := appB_step HO7.out HB7.out hz ((Below.refl _ _).alloc (Nat.le_refl _) _) (m := 1) (K := [0]) rfl hown' hgrow
      have HO8 := Lib.hid hO
      have HB8 := Lib.hid hb
      have hz8 : w.heap.size + 2 ≤ w8.heap.size := by simp at hz'; omega
      rw [hv]
      clear hown' hgrow hv hO hb hz'
      go_wp2_with fail
      go_roundw
      case rel => exact ⟨_, _, _, _, _, _, _, ⟨k+1, q+1, c8, A8, by omega, by have := HQ.out; omega, rfl, by rw [← HT.out k hlt]; exact HO8.out, HB8.out, hz8⟩, rfl⟩
      case measure => show 60 - (q + 1) < 60 - q; omega
    · obtain rfl : k = 39 := by omega
      obtain rfl : q = 60 := hq
      have hcr := crcOf_lt HY.out
      have HLq : Hid ((headL ⟨wave, ready, body, sum⟩ ++ List.replicate 39 0).length = 60) := Lib.hid HLn.out
      have HYq : Hid (Bytes (headL ⟨wave, ready, body, sum⟩ ++ List.replicate 39 0)) := Lib.hid HY.out
      have hcr' : crcOf (headL ⟨wave, ready, body, sum⟩ ++ List.replicate 39 0) < 4294967296 := hcr
      clear hcr HY HLn HT
      generalize hll : headL ⟨wave, ready, body, sum⟩ ++ List.replicate 39 0 = ll at *
      have HLL := Lib.hid hll
      clear hll hlt
      go_wp2_with fail
      refine (crcRef_any A 60 c _ ll HLq.out HO7.out.rd HYq.out (by omega)).mono ?_
      rintro e w6 ⟨rfl, rfl⟩
      obtain ⟨cr, hcre⟩ : ∃ cr, crcOf ll = cr := ⟨_, rfl⟩
      rw [hcre] at hcr' HPk ⊢
      clear hcre
      have hwr : IntKind.i64.wrap (cr : Int) = cr := by rw [IntKind.wrap_i64]; omega
      go_wp2_with fail
      refine (number_any (cr : Int) 4 _ (by omega) (by omega) (by omega) (by omega) (dv4 (by omega) (by omega))).mono ?_
      rintro e w8 ⟨⟨g8, c8, rfl, hOn⟩, hb⟩
      have HN8 := Lib.hid hOn
      have HO8 := Lib.hid (HO7.out.below hb (Nat.le_refl _))
      have HB8 := Lib.hid (HB7.out.trans (hb.mono hz))
      have hz8 := Nat.le_trans hz hb.size
      clear hOn hb
      go_wp2_with (at_builtin; refine wpList_append_own _ rfl _ _ 25 rfl (w.heap.size + 2) 5 i0 _ 1 1 Try.underlying25 hi hy0 hy1 hy2 rfl (by decide) _ _ _ rfl HO8.out.2 ⟨g8, 0, none⟩ 4 c8 (bcells (leB (cr : Int) 4)) rfl (by simp [bcells, leB]) (RdB.cells HN8.out.rd) (bcells_one _) (by unfold maxLen; omega) (by omega) (by omega) ?_)
      intro v' w9 hown' hgrow _
      obtain ⟨⟨A9, c9, hv, hO⟩, hb, _, _, _⟩ := appB_step HO8.out HB8.out hz8 (Below.refl _ _) (m := 4) (K := leB (cr : Int) 4) (leB_length _ 4) hown' hgrow
      obtain ⟨g9, rfl, _, _, _, _⟩ := hO.form (by omega)
      have HO9 := Lib.hid hO
      have HB9 := Lib.hid hb
      rw [hv]
      clear hown' hgrow hv hO hb
      go_wp2_with fail
      go_ret2
      exact ⟨⟨g9, c9, rfl, by rw [HPk.out]; exact HO9.out.mono (by omega)⟩, HB0.out.trans (HB9.out.mono (by omega))⟩
theorem RefPack_no (wave body sum : Int) (ready : Bool) (w : World) (h : wave < 0 ∨ 2147483647 < wave ∨ body < 0 ∨ 2147483647 < body) :
    Calls Try.prog 8 #[.agg #[.int .i64 wave, .bool ready, .int .i64 body, .int .u32 sum]] w fun e w' => e = .returned (.tuple #[.slice none 0 0, .int .i64 1]) ∧ Below w.heap.size w w' := by
  by_cases a : wave < 0
  · go_enter Try.func8, Try.ntmps8
    go_wp2_with fail
    go_ret2
    exact ⟨rfl, (Below.refl _ _).alloc (Nat.le_refl _) _⟩
  · by_cases b : 2147483647 < wave
    · clear h
      go_enter Try.func8, Try.ntmps8
      go_wp2_with fail
      go_ret2
      exact ⟨rfl, (Below.refl _ _).alloc (Nat.le_refl _) _⟩
    · by_cases c : body < 0
      · clear h
        go_enter Try.func8, Try.ntmps8
        go_wp2_with fail
        go_ret2
        exact ⟨rfl, (Below.refl _ _).alloc (Nat.le_refl _) _⟩
      · have d : 2147483647 < body := by omega
        clear h
        go_enter Try.func8, Try.ntmps8
        go_wp2_with fail
        go_ret2
        exact ⟨rfl, (Below.refl _ _).alloc (Nat.le_refl _) _⟩
end Go.Proofs.Ytkjfbgjbifdbjaa
