/-
  What the superblock's Pack makes, the program's and the reference's.
-/
import Derived.Test.YtblibmalommdkaaGreatUMay
import Derived.Test.YtblibmalommdkaaGreatEA
import Derived.Test.YtblibmalommdkaaGreatEC
namespace Go.Proofs.YtblibmalommdkaaGreat.Re
open Go.RowKit
set_option maxRecDepth 100000 in
theorem bytes16_any (n : Int) (d : Nat) (w : World) (h0 : 0 ≤ n) (h1 : n ≤ 9223372036854775807) (hd : 1 ≤ d) (hd8 : d ≤ 8) (hz : dv d n = 0) :
    Calls Tryz.prog 56 #[.int .i64 n, .int .i64 (d : Int)] w fun e w' => (∃ g c, e = .returned (.slice (some ⟨g, 0, none⟩) d c) ∧ OwnB w' w.heap.size (some ⟨g, 0, none⟩) d c (leB n d)) ∧ Below w.heap.size w w' := by
  have HZ := Lib.hid hz
  clear hz
  go_enter Tryz.func56, Tryz.ntmps56
  go_wp2_with fail
  refine (RefBytes_any n d _ h0 h1 hd hd8 HZ.out).mono ?_
  rintro e w1 ⟨⟨g, c, rfl, hO⟩, hb⟩
  go_wp2_with fail
  go_ret
  exact ⟨⟨g, c, rfl, hO⟩, hb⟩
set_option maxRecDepth 100000 in
theorem number16_any (A : Option Addr) (n c : Nat) (w : World) (l : List Int) (hl : l.length = n) (hr : RdB w w.heap.size A l) (hb : Bytes l) (h1 : 1 ≤ n) (h4 : n ≤ 6) :
    Calls Tryz.prog 48 #[.slice A n c] w fun e w' => e = .returned (.int .i64 (leVal l)) ∧ w = w' := by
  have H := Lib.hid hl; have HR := Lib.hid hr; have HB := Lib.hid hb
  clear hl hr hb
  go_enter Tryz.func48, Tryz.ntmps48
  go_wp2_with fail
  refine (RefInt_any A n c _ l H.out HR.out HB.out h1 h4).mono ?_
  rintro e w1 ⟨rfl, rfl⟩
  go_wp2_with fail
  go_ret
  exact ⟨rfl, rfl⟩
theorem dv6 {n : Int} (h0 : 0 ≤ n) (h1 : n < 281474976710656) : dv 6 n = 0 := by simp only [dv]; omega
theorem dv1' {n : Int} (h0 : 0 ≤ n) (h1 : n < 256) : dv 1 n = 0 := by simp only [dv]; omega
theorem lettersS_marked (w : World) (m : Nat × Nat) : RdB (w.alloc (.cells #[.int .u8 111, .int .u8 99, .int .u8 116, .int .u8 97, .int .u8 118, .int .u8 111, .int .u8 48, .int .u8 49] 5 m)) (w.alloc (.cells #[.int .u8 111, .int .u8 99, .int .u8 116, .int .u8 97, .int .u8 118, .int .u8 111, .int .u8 48, .int .u8 49] 5 m)).heap.size (some ⟨w.heap.size, 0, none⟩) lettersS := by
  intro k v hv
  refine ⟨_, 0, rfl, by simp, ?_⟩
  rw [Nat.zero_add, cell_of_row _ _ _ _ _ _ (heap_alloc_new w _)]
  have e : (#[.int .u8 111, .int .u8 99, .int .u8 116, .int .u8 97, .int .u8 118, .int .u8 111, .int .u8 48, .int .u8 49] : Array Value)[k]? = (bcells lettersS)[k]? := by
    rw [← Array.getElem?_toList]; rfl
  rw [e, bcells_get, hv]; rfl
theorem preS_take (q : List Int) (k : Nat) (_hk : k < 33) : q ++ List.replicate k 0 ++ [0] = q ++ List.replicate (k+1) 0 := by
  rw [List.append_assoc, List.replicate_succ']
set_option maxRecDepth 100000 in
set_option maxHeartbeats 4000000 in
theorem RefPackS_yes (s : Sup) (w : World) (ho : okS s) :
    Calls Tryz.prog 36 #[.agg s.cells] w fun e w' => (∃ g c, e = .returned (.tuple #[.slice (some ⟨g, 0, none⟩) 64 c, .int .i64 0]) ∧ OwnB w' w.heap.size (some ⟨g, 0, none⟩) 64 c (packS s)) ∧ Below w.heap.size w w' := by
  obtain ⟨i0, hi, hy0, hy1, hy2⟩ := info_parts info5
  have HOK := Lib.hid ho
  have HPk : Hid (packS s = preS s ++ leB (crcOf (preS s)) 4) := Lib.hid rfl
  have HY := Lib.hid (preS_bytes s)
  have HLn := Lib.hid (preS_length s)
  obtain ⟨a, b, c, d, o⟩ := s
  obtain ⟨h0, h1, h2, h3, h4, h5, h6, h7, h8, h9⟩ := ho
  simp only at h0 h1 h2 h3 h4 h5 h6 h7 h8 h9
  have HH : Hid (preS ⟨a, b, c, d, o⟩ = (lettersS ++ leB a 6 ++ leB b 4 ++ leB c 1 ++ leB d 4 ++ leB o 4) ++ List.replicate 33 0) := Lib.hid (by simp [preS, numsS])
  unfold Sup.cells
  simp only
  have hMB := RefMayS_any ⟨a, b, c, d, o⟩ (w.alloc (.cells #[.int .i64 a, .int .i64 b, .int .i64 c, .int .i64 d, .int .i64 o] 26))
  unfold Sup.cells at hMB
  simp only at hMB
  rw [decide_eq_true HOK.out] at hMB
  have hb0 : Below w.heap.size w (w.alloc (.cells #[.int .i64 a, .int .i64 b, .int .i64 c, .int .i64 d, .int .i64 o] 26)) := (Below.refl _ _).alloc (Nat.le_refl _) _
  have HBX : Hid (∀ j, (w.alloc (.cells #[.int .i64 a, .int .i64 b, .int .i64 c, .int .i64 d, .int .i64 o] 26)).cell? ⟨w.heap.size, j, none⟩ = (#[.int .i64 a, .int .i64 b, .int .i64 c, .int .i64 d, .int .i64 o] : Array Value)[j]?) := Lib.hid (fun j => cell_new _ _ _ j)
  have HB0 := Lib.hid hb0
  have hsz0 : (w.alloc (.cells #[.int .i64 a, .int .i64 b, .int .i64 c, .int .i64 d, .int .i64 o] 26)).heap.size = w.heap.size + 1 := by simp
  clear hb0
  go_enter Tryz.func36, Tryz.ntmps36
  go_wp2_with fail
  refine hMB.mono ?_
  rintro e w1 ⟨rfl, hb⟩
  have hs1 := hb.size
  rw [hsz0] at hs1
  have HB1 : Hid (Below (w.heap.size + 1) (w.alloc (.cells #[.int .i64 a, .int .i64 b, .int .i64 c, .int .i64 d, .int .i64 o] 26)) w1) := Lib.hid (by rw [← hsz0]; exact hb)
  have kc : (convert 22 22 (.slice (some ⟨w1.heap.size, 0, none⟩) 8 8)).run Tryz.prog (w1.alloc (.cells #[.int .u8 111, .int .u8 99, .int .u8 116, .int .u8 97, .int .u8 118, .int .u8 111, .int .u8 48, .int .u8 49] 5)) = .ok (.slice (some ⟨w1.heap.size, 0, none⟩) 8 8) (w1.alloc (.cells #[.int .u8 111, .int .u8 99, .int .u8 116, .int .u8 97, .int .u8 118, .int .u8 111, .int .u8 48, .int .u8 49] 5 (8, 9))) := by
    have := Lib.run_convert_bytes_const (P := Tryz.prog) w1 22 5 #[.int .u8 111, .int .u8 99, .int .u8 116, .int .u8 97, .int .u8 118, .int .u8 111, .int .u8 48, .int .u8 49] 8 8 Tryz.underlying22 Tryz.underlying5
    simpa using this
  have hal2 : Below w1.heap.size w1 (w1.alloc (.cells #[.int .u8 111, .int .u8 99, .int .u8 116, .int .u8 97, .int .u8 118, .int .u8 111, .int .u8 48, .int .u8 49] 5 (8, 9))) := (Below.refl _ _).alloc (Nat.le_refl _) _
  have HB2 : Hid (Below (w.heap.size + 1) (w.alloc (.cells #[.int .i64 a, .int .i64 b, .int .i64 c, .int .i64 d, .int .i64 o] 26)) (w1.alloc (.cells #[.int .u8 111, .int .u8 99, .int .u8 116, .int .u8 97, .int .u8 118, .int .u8 111, .int .u8 48, .int .u8 49] 5 (8, 9)))) := Lib.hid (HB1.out.trans (hal2.mono hs1))
  have HRD := Lib.hid (lettersS_marked w1 (8, 9))
  have hs2 : w.heap.size + 1 ≤ (w1.alloc (.cells #[.int .u8 111, .int .u8 99, .int .u8 116, .int .u8 97, .int .u8 118, .int .u8 111, .int .u8 48, .int .u8 49] 5 (8, 9))).heap.size := by simp; omega
  have c0 : (w1.alloc (.cells #[.int .u8 111, .int .u8 99, .int .u8 116, .int .u8 97, .int .u8 118, .int .u8 111, .int .u8 48, .int .u8 49] 5 (8, 9))).cell? ⟨w.heap.size, 0, none⟩ = some (.int .i64 a) := (HB2.out.cell (p := ⟨w.heap.size, 0, none⟩) (by simp)).trans (HBX.out 0)
  clear hb hal2 hMB
  go_wp2_with fail
  generalize w1.alloc (.cells #[.int .u8 111, .int .u8 99, .int .u8 116, .int .u8 97, .int .u8 118, .int .u8 111, .int .u8 48, .int .u8 49] 5 (8, 9)) = w2 at *
  refine (bytes16_any a 6 _ (by omega) (by omega) (by omega) (by omega) (dv6 (by omega) (by omega))).mono ?_
  rintro e wn0 ⟨⟨gn, cn, rfl, hOn⟩, hb⟩
  have HN := Lib.hid hOn
  have HRD2 := Lib.hid (HRD.out.up hb)
  have HBn := Lib.hid hb
  have hnsz := hb.size
  clear hOn hb c0
  go_wp2_with (at_builtin; refine wpList_append_grows wn0 rfl _ _ 22 rfl 5 i0 _ 1 1 Tryz.underlying22 hi hy0 hy1 hy2 rfl (by decide) (some ⟨w1.heap.size, 0, none⟩) 8 8 (bcells lettersS) rfl (fun h => by cases h) rfl (HRD2.out.cells') ⟨gn, 0, none⟩ 6 cn (bcells (leB a 6)) rfl (by simp [bcells, leB]) (RdB.cells HN.out.rd) (bcells_one _) (by omega) (by unfold maxLen; omega) (by omega) ?_)
  intro v' x0 hown' hgrow
  obtain ⟨A0, k0, hv⟩ := ext_of_ownB hown'
  rw [hv] at hown'
  have hO2 : OwnB x0 (w.heap.size + 1) A0 14 k0 (lettersS ++ leB a 6) := (show OwnB x0 wn0.heap.size A0 14 k0 (lettersS ++ leB a 6) from ⟨by simp [lettersS, leB], by simpa [bcells] using hown'⟩).mono (by omega)
  have HO0 := Lib.hid hO2
  have HX0 : Hid (Below (w.heap.size + 1) (w.alloc (.cells #[.int .i64 a, .int .i64 b, .int .i64 c, .int .i64 d, .int .i64 o] 26)) x0) := Lib.hid ((HB2.out.trans (HBn.out.mono hs2)).grown hgrow (by omega) (fun k h => by cases h))
  have hz0 : w.heap.size + 1 ≤ x0.heap.size := by have := hgrow.size; omega
  rw [hv]
  clear hown' hgrow hv hO2 hnsz HN HRD HRD2 HBn HB2 HB1 kc
  have c1 : x0.cell? ⟨w.heap.size, 1, none⟩ = some (.int .i64 b) := (HX0.out.cell (p := ⟨w.heap.size, 1, none⟩) (by simp)).trans (HBX.out 1)
  go_wp2_with fail
  refine (bytes16_any b 4 _ (by omega) (by omega) (by omega) (by omega) (dv4 (by omega) (by omega))).mono ?_
  rintro e wn1 ⟨⟨gn, cn, rfl, hOn⟩, hb⟩
  have HN := Lib.hid hOn
  have HOb := Lib.hid (HO0.out.below hb (Nat.le_refl _))
  have HBb := Lib.hid (HX0.out.trans (hb.mono hz0))
  have hzb := Nat.le_trans hz0 hb.size
  clear hOn hb c1
  go_wp2_with (at_builtin; refine wpList_append_own _ rfl _ _ 22 rfl (w.heap.size + 1) 5 i0 _ 1 1 Tryz.underlying22 hi hy0 hy1 hy2 rfl (by decide) _ _ _ rfl HOb.out.2 ⟨gn, 0, none⟩ 4 cn (bcells (leB b 4)) rfl (by simp [bcells, leB]) (RdB.cells HN.out.rd) (bcells_one _) (by unfold maxLen; omega) (by omega) (by omega) ?_)
  intro v' x1 hown' hgrow _
  obtain ⟨⟨A1, k1, hv, hO⟩, hb, _, hz', _⟩ := appB_step HOb.out HBb.out hzb (Below.refl _ _) (m := 4) (K := leB b 4) (leB_length _ 4) hown' hgrow
  have HO1 := Lib.hid hO
  have HX1 := Lib.hid hb
  have hz1 := Nat.le_trans hzb hz'
  rw [hv]
  clear hown' hgrow hv hO hb hz' HN HOb HBb hzb HO0 HX0 hz0
  have c2 : x1.cell? ⟨w.heap.size, 2, none⟩ = some (.int .i64 c) := (HX1.out.cell (p := ⟨w.heap.size, 2, none⟩) (by simp)).trans (HBX.out 2)
  go_wp2_with fail
  refine (bytes16_any c 1 _ (by omega) (by omega) (by omega) (by omega) (dv1' (by omega) (by omega))).mono ?_
  rintro e wn2 ⟨⟨gn, cn, rfl, hOn⟩, hb⟩
  have HN := Lib.hid hOn
  have HOb := Lib.hid (HO1.out.below hb (Nat.le_refl _))
  have HBb := Lib.hid (HX1.out.trans (hb.mono hz1))
  have hzb := Nat.le_trans hz1 hb.size
  clear hOn hb c2
  go_wp2_with (at_builtin; refine wpList_append_own _ rfl _ _ 22 rfl (w.heap.size + 1) 5 i0 _ 1 1 Tryz.underlying22 hi hy0 hy1 hy2 rfl (by decide) _ _ _ rfl HOb.out.2 ⟨gn, 0, none⟩ 1 cn (bcells (leB c 1)) rfl (by simp [bcells, leB]) (RdB.cells HN.out.rd) (bcells_one _) (by unfold maxLen; omega) (by omega) (by omega) ?_)
  intro v' x2 hown' hgrow _
  obtain ⟨⟨A2, k2, hv, hO⟩, hb, _, hz', _⟩ := appB_step HOb.out HBb.out hzb (Below.refl _ _) (m := 1) (K := leB c 1) (leB_length _ 1) hown' hgrow
  have HO2 := Lib.hid hO
  have HX2 := Lib.hid hb
  have hz2 := Nat.le_trans hzb hz'
  rw [hv]
  clear hown' hgrow hv hO hb hz' HN HOb HBb hzb HO1 HX1 hz1
  have c3 : x2.cell? ⟨w.heap.size, 3, none⟩ = some (.int .i64 d) := (HX2.out.cell (p := ⟨w.heap.size, 3, none⟩) (by simp)).trans (HBX.out 3)
  go_wp2_with fail
  refine (bytes16_any d 4 _ (by omega) (by omega) (by omega) (by omega) (dv4 (by omega) (by omega))).mono ?_
  rintro e wn3 ⟨⟨gn, cn, rfl, hOn⟩, hb⟩
  have HN := Lib.hid hOn
  have HOb := Lib.hid (HO2.out.below hb (Nat.le_refl _))
  have HBb := Lib.hid (HX2.out.trans (hb.mono hz2))
  have hzb := Nat.le_trans hz2 hb.size
  clear hOn hb c3
  go_wp2_with (at_builtin; refine wpList_append_own _ rfl _ _ 22 rfl (w.heap.size + 1) 5 i0 _ 1 1 Tryz.underlying22 hi hy0 hy1 hy2 rfl (by decide) _ _ _ rfl HOb.out.2 ⟨gn, 0, none⟩ 4 cn (bcells (leB d 4)) rfl (by simp [bcells, leB]) (RdB.cells HN.out.rd) (bcells_one _) (by unfold maxLen; omega) (by omega) (by omega) ?_)
  intro v' x3 hown' hgrow _
  obtain ⟨⟨A3, k3, hv, hO⟩, hb, _, hz', _⟩ := appB_step HOb.out HBb.out hzb (Below.refl _ _) (m := 4) (K := leB d 4) (leB_length _ 4) hown' hgrow
  have HO3 := Lib.hid hO
  have HX3 := Lib.hid hb
  have hz3 := Nat.le_trans hzb hz'
  rw [hv]
  clear hown' hgrow hv hO hb hz' HN HOb HBb hzb HO2 HX2 hz2
  have c4 : x3.cell? ⟨w.heap.size, 4, none⟩ = some (.int .i64 o) := (HX3.out.cell (p := ⟨w.heap.size, 4, none⟩) (by simp)).trans (HBX.out 4)
  go_wp2_with fail
  refine (bytes16_any o 4 _ (by omega) (by omega) (by omega) (by omega) (dv4 (by omega) (by omega))).mono ?_
  rintro e wn4 ⟨⟨gn, cn, rfl, hOn⟩, hb⟩
  have HN := Lib.hid hOn
  have HOb := Lib.hid (HO3.out.below hb (Nat.le_refl _))
  have HBb := Lib.hid (HX3.out.trans (hb.mono hz3))
  have hzb := Nat.le_trans hz3 hb.size
  clear hOn hb c4
  go_wp2_with (at_builtin; refine wpList_append_own _ rfl _ _ 22 rfl (w.heap.size + 1) 5 i0 _ 1 1 Tryz.underlying22 hi hy0 hy1 hy2 rfl (by decide) _ _ _ rfl HOb.out.2 ⟨gn, 0, none⟩ 4 cn (bcells (leB o 4)) rfl (by simp [bcells, leB]) (RdB.cells HN.out.rd) (bcells_one _) (by unfold maxLen; omega) (by omega) (by omega) ?_)
  intro v' x4 hown' hgrow _
  obtain ⟨⟨A4, k4, hv, hO⟩, hb, _, hz', _⟩ := appB_step HOb.out HBb.out hzb (Below.refl _ _) (m := 4) (K := leB o 4) (leB_length _ 4) hown' hgrow
  have HO4 := Lib.hid hO
  have HX4 := Lib.hid hb
  have hz4 := Nat.le_trans hzb hz'
  rw [hv]
  clear hown' hgrow hv hO hb hz' HN HOb HBb hzb HO3 HX3 hz3
  generalize hrw : lettersS ++ leB a 6 ++ leB b 4 ++ leB c 1 ++ leB d 4 ++ leB o 4 = row at *
  clear hrw
  go_wp2_with fail
  go_loopw [4] (fun v wr => ∃ (k q c' : Nat) (A : Option Addr), k ≤ 33 ∧ q = 27 + k ∧ v = .slice A q c' ∧ OwnB wr (w.heap.size + 1) A q c' (row ++ List.replicate k 0) ∧ Below (w.heap.size + 1) (w.alloc (.cells #[.int .i64 a, .int .i64 b, .int .i64 c, .int .i64 d, .int .i64 o] 26)) wr ∧ w.heap.size + 1 ≤ wr.heap.size) (fun v _ => room60 v)
  case atStart => exact ⟨0, 27, k4, A4, by omega, rfl, rfl, by simpa using HO4.out, HX4.out, hz4⟩
  case round =>
    clear HO4 HX4
    obtain ⟨k, q, cq, A, hk, hq, rfl, hO, hb, hz⟩ := hrel
    have HO7 := Lib.hid hO
    have HB7 := Lib.hid hb
    clear hO hb
    by_cases hlt : k < 33
    · have HQ := Lib.hid hq
      have hq60 : q < 60 := by omega
      clear hq
      go_wp2_with (at_builtin; refine wpList_append_own _ rfl _ _ 22 rfl (w.heap.size + 1) 5 i0 _ 1 1 Tryz.underlying22 hi hy0 hy1 hy2 rfl (by decide) _ _ _ rfl (HO7.out.alloc _).2 ⟨wr.heap.size, 0, none⟩ 1 1 (bcells [0]) rfl rfl (newb_one _ _ _ rfl) (bcells_one _) (by unfold maxLen; omega) (by omega) (by simp; omega) ?_)
      intro v' w8 hown' hgrow _
      obtain ⟨⟨A8, c8, hv, hO⟩, hb, _, hz', _⟩ := appB_step HO7.out HB7.out hz ((Below.refl _ _).alloc (Nat.le_refl _) _) (m := 1) (K := [0]) rfl hown' hgrow
      have HO8 := Lib.hid hO
      have HB8 := Lib.hid hb
      have hz8 : w.heap.size + 1 ≤ w8.heap.size := by simp at hz'; omega
      rw [hv]
      clear hown' hgrow hv hO hb hz'
      go_wp2_with fail
      go_roundw
      case rel => exact ⟨_, _, _, _, _, _, _, ⟨k+1, q+1, c8, A8, by omega, by have := HQ.out; omega, rfl, by rw [← preS_take row k hlt]; exact HO8.out, HB8.out, hz8⟩, rfl⟩
      case measure => show 60 - (q + 1) < 60 - q; omega
    · obtain rfl : k = 33 := by omega
      obtain rfl : q = 60 := hq
      rw [← HH.out] at HO7
      have hcr := crcOf_lt HY.out
      generalize preS ⟨a, b, c, d, o⟩ = ll at *
      clear hlt
      go_wp2_with fail
      refine (crcRef_any A 60 cq _ ll HLn.out HO7.out.rd HY.out (by omega)).mono ?_
      rintro e w6 ⟨rfl, rfl⟩
      obtain ⟨cr, hcre⟩ : ∃ cr, crcOf ll = cr := ⟨_, rfl⟩
      rw [hcre] at hcr HPk ⊢
      clear hcre
      have hwr : IntKind.i64.wrap (cr : Int) = cr := by rw [IntKind.wrap_i64]; omega
      go_wp2_with fail
      refine (bytes16_any (cr : Int) 4 _ (by omega) (by omega) (by omega) (by omega) (dv4 (by omega) (by omega))).mono ?_
      rintro e w8 ⟨⟨g8, c8, rfl, hOn⟩, hb⟩
      have HN8 := Lib.hid hOn
      have HO8 := Lib.hid (HO7.out.below hb (Nat.le_refl _))
      have HB8 := Lib.hid (HB7.out.trans (hb.mono hz))
      have hz8 := Nat.le_trans hz hb.size
      clear hOn hb
      go_wp2_with (at_builtin; refine wpList_append_own _ rfl _ _ 22 rfl (w.heap.size + 1) 5 i0 _ 1 1 Tryz.underlying22 hi hy0 hy1 hy2 rfl (by decide) _ _ _ rfl HO8.out.2 ⟨g8, 0, none⟩ 4 c8 (bcells (leB (cr : Int) 4)) rfl (by simp [bcells, leB]) (RdB.cells HN8.out.rd) (bcells_one _) (by unfold maxLen; omega) (by omega) (by omega) ?_)
      intro v' w9 hown' hgrow _
      obtain ⟨⟨A9, c9, hv, hO⟩, hb, _, _, _⟩ := appB_step HO8.out HB8.out hz8 (Below.refl _ _) (m := 4) (K := leB (cr : Int) 4) (leB_length _ 4) hown' hgrow
      obtain ⟨g9, rfl, _, _, _, _⟩ := hO.form (by omega)
      have HO9 := Lib.hid hO
      have HB9 := Lib.hid hb
      rw [hv]
      clear hown' hgrow hv hO hb
      go_wp2_with fail
      go_ret2
      exact ⟨⟨g9, c9, rfl, by rw [HPk.out]; exact HO9.out.mono (by omega)⟩, HB0.out.trans (HB9.out.mono (by omega))⟩
set_option maxRecDepth 100000 in
theorem RefPackS_no (s : Sup) (w : World) (ho : ¬ okS s) :
    Calls Tryz.prog 36 #[.agg s.cells] w fun e w' => e = .returned (.tuple #[.slice none 0 0, .int .i64 1]) ∧ Below w.heap.size w w' := by
  have hMB := RefMayS_any s (w.alloc (.cells s.cells 26))
  rw [decide_eq_false ho] at hMB
  obtain ⟨a, b, c, d, o⟩ := s
  unfold Sup.cells at *
  simp only at *
  have hb0 : Below w.heap.size w (w.alloc (.cells #[.int .i64 a, .int .i64 b, .int .i64 c, .int .i64 d, .int .i64 o] 26)) := (Below.refl _ _).alloc (Nat.le_refl _) _
  have HB0 := Lib.hid hb0
  clear hb0 ho
  go_enter Tryz.func36, Tryz.ntmps36
  go_wp2_with fail
  refine hMB.mono ?_
  rintro e w1 ⟨rfl, hb⟩
  have HB1 := Lib.hid (HB0.out.trans (hb.mono HB0.out.size))
  clear hb hMB
  go_wp2_with fail
  go_ret2
  exact ⟨rfl, HB1.out⟩
set_option maxRecDepth 100000 in
theorem PackS_no (s : Sup) (w : World) (ho : ¬ okS s) :
    Calls Tryz.prog 33 #[.agg s.cells] w fun e w' => e = .returned (.tuple #[.slice none 0 0, .int .i64 1]) ∧ Below w.heap.size w w' := by
  have hMB := MayS_any s (w.alloc (.cells s.cells 26))
  rw [decide_eq_false ho] at hMB
  obtain ⟨a, b, c, d, o⟩ := s
  unfold Sup.cells at *
  simp only at *
  have hb0 : Below w.heap.size w (w.alloc (.cells #[.int .i64 a, .int .i64 b, .int .i64 c, .int .i64 d, .int .i64 o] 26)) := (Below.refl _ _).alloc (Nat.le_refl _) _
  have HB0 := Lib.hid hb0
  clear hb0 ho
  go_enter Tryz.func33, Tryz.ntmps33
  go_wp2_with fail
  refine hMB.mono ?_
  rintro e w1 ⟨rfl, hb⟩
  have HB1 := Lib.hid (HB0.out.trans (hb.mono HB0.out.size))
  clear hb hMB
  go_wp2_with fail
  go_ret2
  exact ⟨rfl, HB1.out⟩
end Go.Proofs.YtblibmalommdkaaGreat.Re
