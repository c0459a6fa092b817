/-
  What the superblock's Pack makes, where it may be.
-/
import Derived.Test.YtblibmalommdkaaGreatUPack
namespace Go.Proofs.YtblibmalommdkaaGreat.Re
open Go.RowKit
theorem row_in_b {w : World} {base e sz n c m : Nat} {A : Option Addr} {xs : List Value} (h : w.ownsRow base e sz (.slice A n c) m xs) {b : Nat} (hb : (Value.slice A n c).ownBlock = some b) : base ≤ b := by
  rcases h.2 with ⟨hv, _⟩ | ⟨g, cap', cur, hv, hbg, hg, _⟩
  · injection hv with ha _ _
    subst ha
    simp [Value.ownBlock] at hb
  · injection hv with ha _ _
    subst ha
    simp [Value.ownBlock] at hb
    omega
theorem keepF {w3 wr w5 w6 : World} {F : Nat} {fl : Array Value} {A : Option Addr} {n c : Nat} {l : List Int} (hF : wr.heap[F + 1]? = some (.cells fl 98 (0, 0)) ∧ Below F w3 wr ∧ F + 2 ≤ wr.heap.size) (hO : OwnB wr F A n c l) (hal : Below wr.heap.size wr w5) (hg : w5.grownBy w6 (Value.slice A n c).ownBlock) : w6.heap[F + 1]? = some (.cells fl 98 (0, 0)) ∧ Below F w3 w6 ∧ F + 2 ≤ w6.heap.size := by
  obtain ⟨h1, h2, h3⟩ := hF
  have hs := hal.size
  have hb6 : Below F w3 w6 := (h2.trans (hal.mono (by omega))).grown hg (by omega) (fun b hb => row_in_b hO.2 hb)
  refine ⟨?_, hb6, by have := hg.size; omega⟩
  rw [hg.block (F + 1) (by omega) (fun e => ?_)]
  · exact (hal.block _ (by omega)).trans h1
  · rcases hO.2.2 with ⟨hv, _⟩ | ⟨g, cap', cur, hv, hbg, hg', _⟩
    · injection hv with ha _ _
      subst ha
      simp [Value.ownBlock] at e
    · injection hv with ha _ _
      subst ha
      simp [Value.ownBlock] at e
      rw [← e, h1] at hg'
      injection hg' with hg'
      injection hg' with _ h4 _
      cases h4
set_option maxRecDepth 100000 in
set_option maxHeartbeats 8000000 in
theorem PackS_yes (s : Sup) (w : World) (ho : okS s) :
    Calls Tryz.prog 33 #[.agg s.cells] w fun e w' => (∃ g c, e = .returned (.tuple #[.slice (some ⟨g, 0, none⟩) 64 c, .int .i64 0]) ∧ OwnB w' w.heap.size (some ⟨g, 0, none⟩) 64 c (packS s)) ∧ Below w.heap.size w w' := by
  obtain ⟨i0, hi, hy0, hy1, hy2⟩ := info_parts info5
  have HOK := Lib.hid ho
  have HPk : Hid (packS s = preS s ++ leB (crcOf (preS s)) 4) := Lib.hid rfl
  have HY := Lib.hid (preS_bytes s)
  have HLn := Lib.hid (preS_length s)
  obtain ⟨a, b, c, d, o⟩ := s
  obtain ⟨h0, h1, h2, h3, h4, h5, h6, h7, h8, h9⟩ := ho
  simp only at h0 h1 h2 h3 h4 h5 h6 h7 h8 h9
  have HH : Hid (preS ⟨a, b, c, d, o⟩ = (lettersS ++ leB a 6 ++ leB b 4 ++ leB c 1 ++ leB d 4 ++ leB o 4) ++ List.replicate 33 0) := Lib.hid (by simp [preS, numsS])
  have hMB := MayS_any ⟨a, b, c, d, o⟩ (w.alloc (.cells #[.int .i64 a, .int .i64 b, .int .i64 c, .int .i64 d, .int .i64 o] 26))
  have hFL := fun W : World => fields_any ⟨a, b, c, d, o⟩ W
  unfold Sup.cells at *
  simp only at hMB hFL
  simp only
  rw [decide_eq_true HOK.out] at hMB
  have hb0 : Below w.heap.size w (w.alloc (.cells #[.int .i64 a, .int .i64 b, .int .i64 c, .int .i64 d, .int .i64 o] 26)) := (Below.refl _ _).alloc (Nat.le_refl _) _
  have HBX : Hid (∀ j, (w.alloc (.cells #[.int .i64 a, .int .i64 b, .int .i64 c, .int .i64 d, .int .i64 o] 26)).cell? ⟨w.heap.size, j, none⟩ = (#[.int .i64 a, .int .i64 b, .int .i64 c, .int .i64 d, .int .i64 o] : Array Value)[j]?) := Lib.hid (fun j => cell_new _ _ _ j)
  have HB0 := Lib.hid hb0
  have hsz0 : (w.alloc (.cells #[.int .i64 a, .int .i64 b, .int .i64 c, .int .i64 d, .int .i64 o] 26)).heap.size = w.heap.size + 1 := by simp
  clear hb0
  go_enter Tryz.func33, Tryz.ntmps33
  go_wp2_with fail
  refine hMB.mono ?_
  rintro e w1 ⟨rfl, hb⟩
  have hs1 := hb.size
  rw [hsz0] at hs1
  have HB1 : Hid (Below (w.heap.size + 1) (w.alloc (.cells #[.int .i64 a, .int .i64 b, .int .i64 c, .int .i64 d, .int .i64 o] 26)) w1) := Lib.hid (by rw [← hsz0]; exact hb)
  have kc : (convert 22 22 (.slice (some ⟨w1.heap.size, 0, none⟩) 8 8)).run Tryz.prog (w1.alloc (.cells #[.int .u8 111, .int .u8 99, .int .u8 116, .int .u8 97, .int .u8 118, .int .u8 111, .int .u8 48, .int .u8 49] 5)) = .ok (.slice (some ⟨w1.heap.size, 0, none⟩) 8 8) (w1.alloc (.cells #[.int .u8 111, .int .u8 99, .int .u8 116, .int .u8 97, .int .u8 118, .int .u8 111, .int .u8 48, .int .u8 49] 5 (8, 9))) := by
    have := Lib.run_convert_bytes_const (P := Tryz.prog) w1 22 5 #[.int .u8 111, .int .u8 99, .int .u8 116, .int .u8 97, .int .u8 118, .int .u8 111, .int .u8 48, .int .u8 49] 8 8 Tryz.underlying22 Tryz.underlying5
    simpa using this
  have hal2 : Below w1.heap.size w1 (w1.alloc (.cells #[.int .u8 111, .int .u8 99, .int .u8 116, .int .u8 97, .int .u8 118, .int .u8 111, .int .u8 48, .int .u8 49] 5 (8, 9))) := (Below.refl _ _).alloc (Nat.le_refl _) _
  have HB2 : Hid (Below (w.heap.size + 1) (w.alloc (.cells #[.int .i64 a, .int .i64 b, .int .i64 c, .int .i64 d, .int .i64 o] 26)) (w1.alloc (.cells #[.int .u8 111, .int .u8 99, .int .u8 116, .int .u8 97, .int .u8 118, .int .u8 111, .int .u8 48, .int .u8 49] 5 (8, 9)))) := Lib.hid (HB1.out.trans (hal2.mono hs1))
  have HRD := Lib.hid (lettersS_marked w1 (8, 9))
  have hs2 : w.heap.size + 1 ≤ (w1.alloc (.cells #[.int .u8 111, .int .u8 99, .int .u8 116, .int .u8 97, .int .u8 118, .int .u8 111, .int .u8 48, .int .u8 49] 5 (8, 9))).heap.size := by simp; omega
  have hs2' : w1.heap.size < (w1.alloc (.cells #[.int .u8 111, .int .u8 99, .int .u8 116, .int .u8 97, .int .u8 118, .int .u8 111, .int .u8 48, .int .u8 49] 5 (8, 9))).heap.size := by simp
  have c0 : (w1.alloc (.cells #[.int .u8 111, .int .u8 99, .int .u8 116, .int .u8 97, .int .u8 118, .int .u8 111, .int .u8 48, .int .u8 49] 5 (8, 9))).cell? ⟨w.heap.size, 0, none⟩ = some (.int .i64 a) := (HB2.out.cell (p := ⟨w.heap.size, 0, none⟩) (by simp)).trans (HBX.out 0)
  have c1 : (w1.alloc (.cells #[.int .u8 111, .int .u8 99, .int .u8 116, .int .u8 97, .int .u8 118, .int .u8 111, .int .u8 48, .int .u8 49] 5 (8, 9))).cell? ⟨w.heap.size, 1, none⟩ = some (.int .i64 b) := (HB2.out.cell (p := ⟨w.heap.size, 1, none⟩) (by simp)).trans (HBX.out 1)
  have c2 : (w1.alloc (.cells #[.int .u8 111, .int .u8 99, .int .u8 116, .int .u8 97, .int .u8 118, .int .u8 111, .int .u8 48, .int .u8 49] 5 (8, 9))).cell? ⟨w.heap.size, 2, none⟩ = some (.int .i64 c) := (HB2.out.cell (p := ⟨w.heap.size, 2, none⟩) (by simp)).trans (HBX.out 2)
  have c3 : (w1.alloc (.cells #[.int .u8 111, .int .u8 99, .int .u8 116, .int .u8 97, .int .u8 118, .int .u8 111, .int .u8 48, .int .u8 49] 5 (8, 9))).cell? ⟨w.heap.size, 3, none⟩ = some (.int .i64 d) := (HB2.out.cell (p := ⟨w.heap.size, 3, none⟩) (by simp)).trans (HBX.out 3)
  have c4 : (w1.alloc (.cells #[.int .u8 111, .int .u8 99, .int .u8 116, .int .u8 97, .int .u8 118, .int .u8 111, .int .u8 48, .int .u8 49] 5 (8, 9))).cell? ⟨w.heap.size, 4, none⟩ = some (.int .i64 o) := (HB2.out.cell (p := ⟨w.heap.size, 4, none⟩) (by simp)).trans (HBX.out 4)
  clear hb hal2 hMB
  go_wp2_with fail
  generalize w1.alloc (.cells #[.int .u8 111, .int .u8 99, .int .u8 116, .int .u8 97, .int .u8 118, .int .u8 111, .int .u8 48, .int .u8 49] 5 (8, 9)) = w3 at *
  refine (hFL w3).mono ?_
  rintro e w4 ⟨rfl, rfl⟩
  have hHF : (∀ wr, wr = (w3.alloc (.cells #[.int .i64 a, .int .i64 b, .int .i64 c, .int .i64 d, .int .i64 o] 26)).alloc (.cells #[.int .i64 a, .int .i64 6, .int .i64 b, .int .i64 4, .int .i64 c, .int .i64 1, .int .i64 d, .int .i64 4, .int .i64 o, .int .i64 4] 98) → wr.heap[w3.heap.size + 1]? = some (.cells #[.int .i64 a, .int .i64 6, .int .i64 b, .int .i64 4, .int .i64 c, .int .i64 1, .int .i64 d, .int .i64 4, .int .i64 o, .int .i64 4] 98 (0, 0)) ∧ Below w3.heap.size w3 wr ∧ w3.heap.size + 2 ≤ wr.heap.size) := fun wr hwr => by
    subst hwr
    refine ⟨?_, ((Below.refl w3.heap.size w3).alloc (Nat.le_refl _) _).alloc (by simp) _, by simp⟩
    have := heap_alloc_new (w3.alloc (.cells #[.int .i64 a, .int .i64 b, .int .i64 c, .int .i64 d, .int .i64 o] 26)) (.cells #[.int .i64 a, .int .i64 6, .int .i64 b, .int .i64 4, .int .i64 c, .int .i64 1, .int .i64 d, .int .i64 4, .int .i64 o, .int .i64 4] 98)
    simpa using this
  clear hFL c0 c1 c2 c3 c4
  have HF0 := Lib.hid (hHF _ rfl)
  have HR0 : Hid (RdB ((w3.alloc (.cells #[.int .i64 a, .int .i64 b, .int .i64 c, .int .i64 d, .int .i64 o] 26)).alloc (.cells #[.int .i64 a, .int .i64 6, .int .i64 b, .int .i64 4, .int .i64 c, .int .i64 1, .int .i64 d, .int .i64 4, .int .i64 o, .int .i64 4] 98)) ((w3.alloc (.cells #[.int .i64 a, .int .i64 b, .int .i64 c, .int .i64 d, .int .i64 o] 26)).alloc (.cells #[.int .i64 a, .int .i64 6, .int .i64 b, .int .i64 4, .int .i64 c, .int .i64 1, .int .i64 d, .int .i64 4, .int .i64 o, .int .i64 4] 98)).heap.size (some ⟨w1.heap.size, 0, none⟩) lettersS) := Lib.hid ((HRD.out.up ((Below.refl _ _).alloc (Nat.le_refl _) _)).up ((Below.refl _ _).alloc (Nat.le_refl _) _))
  clear hHF
  go_wp2_with fail
  go_loopw [4, 19] (fun v i wr => ∃ k : Nat, k ≤ 5 ∧ i = .int .i64 k ∧ Hid (wr.heap[w3.heap.size + 1]? = some (.cells #[.int .i64 a, .int .i64 6, .int .i64 b, .int .i64 4, .int .i64 c, .int .i64 1, .int .i64 d, .int .i64 4, .int .i64 o, .int .i64 4] 98 (0, 0)) ∧ Below w3.heap.size w3 wr ∧ w3.heap.size + 2 ≤ wr.heap.size) ∧ ((k = 0 ∧ v = .slice (some ⟨w1.heap.size, 0, none⟩) 8 8 ∧ RdB wr wr.heap.size (some ⟨w1.heap.size, 0, none⟩) lettersS) ∨ (k = 1 ∧ ∃ (A : Option Addr) (c' : Nat), v = .slice A 14 c' ∧ OwnB wr w3.heap.size A 14 c' (lettersS ++ leB a 6)) ∨ (k = 2 ∧ ∃ (A : Option Addr) (c' : Nat), v = .slice A 18 c' ∧ OwnB wr w3.heap.size A 18 c' (lettersS ++ leB a 6 ++ leB b 4)) ∨ (k = 3 ∧ ∃ (A : Option Addr) (c' : Nat), v = .slice A 19 c' ∧ OwnB wr w3.heap.size A 19 c' (lettersS ++ leB a 6 ++ leB b 4 ++ leB c 1)) ∨ (k = 4 ∧ ∃ (A : Option Addr) (c' : Nat), v = .slice A 23 c' ∧ OwnB wr w3.heap.size A 23 c' (lettersS ++ leB a 6 ++ leB b 4 ++ leB c 1 ++ leB d 4)) ∨ (k = 5 ∧ ∃ (A : Option Addr) (c' : Nat), v = .slice A 27 c' ∧ OwnB wr w3.heap.size A 27 c' (lettersS ++ leB a 6 ++ leB b 4 ++ leB c 1 ++ leB d 4 ++ leB o 4)))) (fun _ i _ => 5 - (intOf i).toNat)
  case atStart => exact ⟨0, by omega, rfl, HF0, .inl ⟨rfl, rfl, HR0.out⟩⟩
  case round =>
    clear HF0 HR0 kc HRD
    obtain ⟨k, hk5, rfl, HF, hin⟩ := hrel
    have hbig : w3.heap.size ≤ wr.heap.size := by have := HF.out.2.2; omega
    rcases hin with ⟨rfl, rfl, hR⟩ | ⟨rfl, A, c', rfl, hO⟩ | ⟨rfl, A, c', rfl, hO⟩ | ⟨rfl, A, c', rfl, hO⟩ | ⟨rfl, A, c', rfl, hO⟩ | ⟨rfl, A, c', rfl, hO⟩
    · have fa : wr.cell? ⟨w3.heap.size + 1, 0, none⟩ = some (.int .i64 a) := cell_of_row _ _ 0 _ 98 (0, 0) HF.out.1
      have fb : wr.cell? ⟨w3.heap.size + 1, 1, none⟩ = some (.int .i64 6) := cell_of_row _ _ 1 _ 98 (0, 0) HF.out.1
      have HR := Lib.hid hR
      clear hR
      go_wp2_with fail
      refine (Bytes6_any a _ (by omega) (by omega)).mono ?_
      rintro e w5 ⟨⟨g5, rfl, hO5⟩, hb⟩
      have HN := Lib.hid hO5
      have hal : Below wr.heap.size wr w5 := ((Below.refl wr.heap.size wr).alloc (Nat.le_refl _) _).trans (hb.mono (by simp))
      have hs5 := hal.size
      have HAL := Lib.hid hal
      have HR5 := Lib.hid (HR.out.up hal)
      clear hO5 hb fa fb hal
      go_wp2_with (at_builtin; refine wpList_append_grows w5 rfl _ _ 22 rfl 5 i0 _ 1 1 Tryz.underlying22 hi hy0 hy1 hy2 rfl (by decide) (some ⟨w1.heap.size, 0, none⟩) 8 8 (bcells lettersS) rfl (fun h => by cases h) rfl (HR5.out.cells') ⟨g5, 0, none⟩ 6 6 (bcells (leB a 6)) rfl (by simp [bcells, leB]) (RdB.cells HN.out.rd) (bcells_one _) (by omega) (by unfold maxLen; omega) (by omega) ?_)
      intro v' w6 hown' hgrow
      obtain ⟨A6, c6, hv⟩ := ext_of_ownB hown'
      rw [hv] at hown'
      have HO6 : Hid (OwnB w6 w3.heap.size A6 14 c6 (lettersS ++ leB a 6)) := Lib.hid ((show OwnB w6 w5.heap.size A6 14 c6 (lettersS ++ leB a 6) from ⟨by simp [lettersS, leB], by simpa [bcells] using hown'⟩).mono (by omega))
      have hb6 : Below wr.heap.size wr w6 := HAL.out.grown hgrow hs5 (fun k h => by cases h)
      have HF6 : Hid (w6.heap[w3.heap.size + 1]? = some (.cells #[.int .i64 a, .int .i64 6, .int .i64 b, .int .i64 4, .int .i64 c, .int .i64 1, .int .i64 d, .int .i64 4, .int .i64 o, .int .i64 4] 98 (0, 0)) ∧ Below w3.heap.size w3 w6 ∧ w3.heap.size + 2 ≤ w6.heap.size) := Lib.hid ⟨(hb6.block _ (by have := HF.out.2.2; omega)).trans HF.out.1, HF.out.2.1.trans (hb6.mono (by have := HF.out.2.2; omega)), by have := HF.out.2.2; have := hb6.size; omega⟩
      rw [hv]
      clear hown' hgrow hv hb6
      go_wp2_with fail
      go_roundw
      case rel => exact ⟨1, by omega, rfl, HF6, .inr (.inl ⟨rfl, A6, c6, rfl, HO6.out⟩)⟩
      case measure => simp [intOf]
    · have fa : wr.cell? ⟨w3.heap.size + 1, 2, none⟩ = some (.int .i64 b) := cell_of_row _ _ 2 _ 98 (0, 0) HF.out.1
      have fb : wr.cell? ⟨w3.heap.size + 1, 3, none⟩ = some (.int .i64 4) := cell_of_row _ _ 3 _ 98 (0, 0) HF.out.1
      have HO := Lib.hid hO
      clear hO
      go_wp2_with fail
      refine (Bytes4_any b _ (by omega) (by omega)).mono ?_
      rintro e w5 ⟨⟨g5, rfl, hO5⟩, hb⟩
      have HN := Lib.hid hO5
      have hal : Below wr.heap.size wr w5 := ((Below.refl wr.heap.size wr).alloc (Nat.le_refl _) _).trans (hb.mono (by simp))
      have hs5 := hal.size
      have HAL := Lib.hid hal
      have HO5 := Lib.hid (HO.out.below hal (Nat.le_refl _))
      clear hO5 hb fa fb hal
      go_wp2_with (at_builtin; refine wpList_append_own _ rfl _ _ 22 rfl w3.heap.size 5 i0 _ 1 1 Tryz.underlying22 hi hy0 hy1 hy2 rfl (by decide) _ _ _ rfl HO5.out.2 ⟨g5, 0, none⟩ 4 4 (bcells (leB b 4)) rfl (by simp [bcells, leB]) (RdB.cells HN.out.rd) (bcells_one _) (by unfold maxLen; omega) (by omega) (by omega) ?_)
      intro v' w6 hown' hgrow _
      have hin5 : ∀ b, (Value.slice A 14 c').ownBlock = some b → w3.heap.size ≤ b := fun b hb => (row_in_b HO5.out.2 hb)
      obtain ⟨⟨A6, c6, hv, hO⟩, _, _, hz', _⟩ := appB_step (w := w5) HO5.out (Below.refl _ _) (by omega) (Below.refl _ _) (m := 4) (K := leB b 4) (leB_length _ 4) hown' hgrow
      have HO6 := Lib.hid hO
      have hb6 : Below w3.heap.size wr w6 := (HAL.out.mono hbig).grown hgrow (by omega) hin5
      have HF6 : Hid (w6.heap[w3.heap.size + 1]? = some (.cells #[.int .i64 a, .int .i64 6, .int .i64 b, .int .i64 4, .int .i64 c, .int .i64 1, .int .i64 d, .int .i64 4, .int .i64 o, .int .i64 4] 98 (0, 0)) ∧ Below w3.heap.size w3 w6 ∧ w3.heap.size + 2 ≤ w6.heap.size) := Lib.hid (keepF HF.out HO.out HAL.out hgrow)
      rw [hv]
      clear hown' hgrow hv hO hz' hb6 hin5
      go_wp2_with fail
      go_roundw
      case rel => exact ⟨2, by omega, rfl, HF6, .inr (.inr (.inl ⟨rfl, A6, c6, rfl, HO6.out⟩))⟩
      case measure => simp [intOf]
    · have fa : wr.cell? ⟨w3.heap.size + 1, 4, none⟩ = some (.int .i64 c) := cell_of_row _ _ 4 _ 98 (0, 0) HF.out.1
      have fb : wr.cell? ⟨w3.heap.size + 1, 5, none⟩ = some (.int .i64 1) := cell_of_row _ _ 5 _ 98 (0, 0) HF.out.1
      have HO := Lib.hid hO
      clear hO
      go_wp2_with fail
      refine (Bytes1_any c _ (by omega) (by omega)).mono ?_
      rintro e w5 ⟨⟨g5, rfl, hO5⟩, hb⟩
      have HN := Lib.hid hO5
      have hal : Below wr.heap.size wr w5 := ((Below.refl wr.heap.size wr).alloc (Nat.le_refl _) _).trans (hb.mono (by simp))
      have hs5 := hal.size
      have HAL := Lib.hid hal
      have HO5 := Lib.hid (HO.out.below hal (Nat.le_refl _))
      clear hO5 hb fa fb hal
      go_wp2_with (at_builtin; refine wpList_append_own _ rfl _ _ 22 rfl w3.heap.size 5 i0 _ 1 1 Tryz.underlying22 hi hy0 hy1 hy2 rfl (by decide) _ _ _ rfl HO5.out.2 ⟨g5, 0, none⟩ 1 1 (bcells (leB c 1)) rfl (by simp [bcells, leB]) (RdB.cells HN.out.rd) (bcells_one _) (by unfold maxLen; omega) (by omega) (by omega) ?_)
      intro v' w6 hown' hgrow _
      have hin5 : ∀ b, (Value.slice A 18 c').ownBlock = some b → w3.heap.size ≤ b := fun b hb => (row_in_b HO5.out.2 hb)
      obtain ⟨⟨A6, c6, hv, hO⟩, _, _, hz', _⟩ := appB_step (w := w5) HO5.out (Below.refl _ _) (by omega) (Below.refl _ _) (m := 1) (K := leB c 1) (leB_length _ 1) hown' hgrow
      have HO6 := Lib.hid hO
      have hb6 : Below w3.heap.size wr w6 := (HAL.out.mono hbig).grown hgrow (by omega) hin5
      have HF6 : Hid (w6.heap[w3.heap.size + 1]? = some (.cells #[.int .i64 a, .int .i64 6, .int .i64 b, .int .i64 4, .int .i64 c, .int .i64 1, .int .i64 d, .int .i64 4, .int .i64 o, .int .i64 4] 98 (0, 0)) ∧ Below w3.heap.size w3 w6 ∧ w3.heap.size + 2 ≤ w6.heap.size) := Lib.hid (keepF HF.out HO.out HAL.out hgrow)
      rw [hv]
      clear hown' hgrow hv hO hz' hb6 hin5
      go_wp2_with fail
      go_roundw
      case rel => exact ⟨3, by omega, rfl, HF6, .inr (.inr (.inr (.inl ⟨rfl, A6, c6, rfl, HO6.out⟩)))⟩
      case measure => simp [intOf]
    · have fa : wr.cell? ⟨w3.heap.size + 1, 6, none⟩ = some (.int .i64 d) := cell_of_row _ _ 6 _ 98 (0, 0) HF.out.1
      have fb : wr.cell? ⟨w3.heap.size + 1, 7, none⟩ = some (.int .i64 4) := cell_of_row _ _ 7 _ 98 (0, 0) HF.out.1
      have HO := Lib.hid hO
      clear hO
      go_wp2_with fail
      refine (Bytes4_any d _ (by omega) (by omega)).mono ?_
      rintro e w5 ⟨⟨g5, rfl, hO5⟩, hb⟩
      have HN := Lib.hid hO5
      have hal : Below wr.heap.size wr w5 := ((Below.refl wr.heap.size wr).alloc (Nat.le_refl _) _).trans (hb.mono (by simp))
      have hs5 := hal.size
      have HAL := Lib.hid hal
      have HO5 := Lib.hid (HO.out.below hal (Nat.le_refl _))
      clear hO5 hb fa fb hal
      go_wp2_with (at_builtin; refine wpList_append_own _ rfl _ _ 22 rfl w3.heap.size 5 i0 _ 1 1 Tryz.underlying22 hi hy0 hy1 hy2 rfl (by decide) _ _ _ rfl HO5.out.2 ⟨g5, 0, none⟩ 4 4 (bcells (leB d 4)) rfl (by simp [bcells, leB]) (RdB.cells HN.out.rd) (bcells_one _) (by unfold maxLen; omega) (by omega) (by omega) ?_)
      intro v' w6 hown' hgrow _
      have hin5 : ∀ b, (Value.slice A 19 c').ownBlock = some b → w3.heap.size ≤ b := fun b hb => (row_in_b HO5.out.2 hb)
      obtain ⟨⟨A6, c6, hv, hO⟩, _, _, hz', _⟩ := appB_step (w := w5) HO5.out (Below.refl _ _) (by omega) (Below.refl _ _) (m := 4) (K := leB d 4) (leB_length _ 4) hown' hgrow
      have HO6 := Lib.hid hO
      have hb6 : Below w3.heap.size wr w6 := (HAL.out.mono hbig).grown hgrow (by omega) hin5
      have HF6 : Hid (w6.heap[w3.heap.size + 1]? = some (.cells #[.int .i64 a, .int .i64 6, .int .i64 b, .int .i64 4, .int .i64 c, .int .i64 1, .int .i64 d, .int .i64 4, .int .i64 o, .int .i64 4] 98 (0, 0)) ∧ Below w3.heap.size w3 w6 ∧ w3.heap.size + 2 ≤ w6.heap.size) := Lib.hid (keepF HF.out HO.out HAL.out hgrow)
      rw [hv]
      clear hown' hgrow hv hO hz' hb6 hin5
      go_wp2_with fail
      go_roundw
      case rel => exact ⟨4, by omega, rfl, HF6, .inr (.inr (.inr (.inr (.inl ⟨rfl, A6, c6, rfl, HO6.out⟩))))⟩
      case measure => simp [intOf]
    · have fa : wr.cell? ⟨w3.heap.size + 1, 8, none⟩ = some (.int .i64 o) := cell_of_row _ _ 8 _ 98 (0, 0) HF.out.1
      have fb : wr.cell? ⟨w3.heap.size + 1, 9, none⟩ = some (.int .i64 4) := cell_of_row _ _ 9 _ 98 (0, 0) HF.out.1
      have HO := Lib.hid hO
      clear hO
      go_wp2_with fail
      refine (Bytes4_any o _ (by omega) (by omega)).mono ?_
      rintro e w5 ⟨⟨g5, rfl, hO5⟩, hb⟩
      have HN := Lib.hid hO5
      have hal : Below wr.heap.size wr w5 := ((Below.refl wr.heap.size wr).alloc (Nat.le_refl _) _).trans (hb.mono (by simp))
      have hs5 := hal.size
      have HAL := Lib.hid hal
      have HO5 := Lib.hid (HO.out.below hal (Nat.le_refl _))
      clear hO5 hb fa fb hal
      go_wp2_with (at_builtin; refine wpList_append_own _ rfl _ _ 22 rfl w3.heap.size 5 i0 _ 1 1 Tryz.underlying22 hi hy0 hy1 hy2 rfl (by decide) _ _ _ rfl HO5.out.2 ⟨g5, 0, none⟩ 4 4 (bcells (leB o 4)) rfl (by simp [bcells, leB]) (RdB.cells HN.out.rd) (bcells_one _) (by unfold maxLen; omega) (by omega) (by omega) ?_)
      intro v' w6 hown' hgrow _
      have hin5 : ∀ b, (Value.slice A 23 c').ownBlock = some b → w3.heap.size ≤ b := fun b hb => (row_in_b HO5.out.2 hb)
      obtain ⟨⟨A6, c6, hv, hO⟩, _, _, hz', _⟩ := appB_step (w := w5) HO5.out (Below.refl _ _) (by omega) (Below.refl _ _) (m := 4) (K := leB o 4) (leB_length _ 4) hown' hgrow
      have HO6 := Lib.hid hO
      have hb6 : Below w3.heap.size wr w6 := (HAL.out.mono hbig).grown hgrow (by omega) hin5
      have HF6 : Hid (w6.heap[w3.heap.size + 1]? = some (.cells #[.int .i64 a, .int .i64 6, .int .i64 b, .int .i64 4, .int .i64 c, .int .i64 1, .int .i64 d, .int .i64 4, .int .i64 o, .int .i64 4] 98 (0, 0)) ∧ Below w3.heap.size w3 w6 ∧ w3.heap.size + 2 ≤ w6.heap.size) := Lib.hid (keepF HF.out HO.out HAL.out hgrow)
      rw [hv]
      clear hown' hgrow hv hO hz' hb6 hin5
      go_wp2_with fail
      go_roundw
      case rel => exact ⟨5, by omega, rfl, HF6, .inr (.inr (.inr (.inr (.inr (⟨rfl, A6, c6, rfl, HO6.out⟩)))))⟩
      case measure => simp [intOf]
    · obtain ⟨g, rfl, _, _, _, _⟩ := hO.form (by omega)
      have HO := Lib.hid hO
      have HF6 := HF
      clear hO
      go_wp2_with (at_builtin; refine wpList_append_zeros rfl _ _ 22 3 rfl w3.heap.size 5 i0 (.int .u8 0) .i64 Tryz.underlying22 Tryz.underlying3 hi hy0 hy1 hy2 rfl rfl g 27 c' _ rfl HO.out.2 33 rfl (by omega) (by omega) (by omega) (by omega) ?_)
      intro v' w5 hown hg hblk
      obtain ⟨A5, c5, hv⟩ := ext_of_ownB hown
      rw [hv] at hown
      have hO5 : OwnB w5 w3.heap.size A5 60 c5 (preS ⟨a, b, c, d, o⟩) := ⟨HLn.out, by rw [HH.out]; simpa [bcells] using hown⟩
      obtain ⟨g5, rfl, hb5, hlt5, _, _⟩ := hO5.form (by omega)
      have HO5 := Lib.hid hO5
      have hgb := (row_in_b HO.out.2 (b := g) (by simp [Value.ownBlock]))
      have HB5 : Hid (Below w3.heap.size w3 w5) := Lib.hid (HF.out.2.1.grown hg hbig (fun k h => by injection h with h; omega))
      have hs5 := hg.size
      rw [hv]
      clear hown hg hblk hv hO5
      have hcr := crcOf_lt HY.out
      have HC : Hid (∀ o : Obj, o = .cells #[.slice (some ⟨g5, 0, none⟩) 60 c5] 22 → (w5.alloc o).cell? ⟨w5.heap.size, 0, none⟩ = some (.slice (some ⟨g5, 0, none⟩) 60 c5)) := Lib.hid (fun o ho => by subst ho; rw [cell_new]; rfl)
      generalize hpl : packS ⟨a, b, c, d, o⟩ = pl at *
      have HQ := Lib.hid hpl
      clear hpl
      generalize preS ⟨a, b, c, d, o⟩ = l at *
      go_wp2_with fail
      refine (crc_any w5.heap.size 1 (some ⟨g5, 0, none⟩) 60 c5 _ l HLn.out ((HO5.out.alloc _).rd) HY.out (by omega) (HC.out _ rfl)).mono ?_
      rintro e w6 ⟨rfl, rfl⟩
      generalize crcOf l = cr at *
      have hwr : IntKind.i64.wrap (cr : Int) = cr := by rw [IntKind.wrap_i64]; omega
      go_wp2_with fail
      refine (Bytes4_any (cr : Int) _ (by omega) (by omega)).mono ?_
      rintro e w7 ⟨⟨g7, rfl, hO7⟩, hb7⟩
      have HN := Lib.hid hO7
      have hal7 : Below w5.heap.size w5 w7 := ((Below.refl w5.heap.size w5).alloc (Nat.le_refl _) _).trans (hb7.mono (by simp))
      have HO8 := Lib.hid (HO5.out.below hal7 (Nat.le_refl _))
      have HB8 := Lib.hid (HB5.out.trans (hal7.mono (by omega)))
      have hz8 : w3.heap.size ≤ w7.heap.size := by have := hal7.size; omega
      clear hO7 hb7 hal7
      go_wp2_with (at_builtin; refine wpList_append_own _ rfl _ _ 22 rfl w3.heap.size 5 i0 _ 1 1 Tryz.underlying22 hi hy0 hy1 hy2 rfl (by decide) _ _ _ rfl HO8.out.2 ⟨g7, 0, none⟩ 4 4 (bcells (leB (cr : Int) 4)) rfl (by simp [bcells, leB]) (RdB.cells HN.out.rd) (bcells_one _) (by unfold maxLen; omega) (by omega) (by omega) ?_)
      intro v' w9 hown' hgrow _
      obtain ⟨⟨A9, c9, hv, hO⟩, hb, _, _, _⟩ := appB_step HO8.out HB8.out hz8 (Below.refl _ _) (m := 4) (K := leB (cr : Int) 4) (leB_length _ 4) hown' hgrow
      obtain ⟨g9, rfl, _, _, _, _⟩ := hO.form (by omega)
      have HO9 := Lib.hid hO
      have HB9 := Lib.hid hb
      rw [hv]
      clear hown' hgrow hv hO hb
      go_wp2_with fail
      go_ret2
      exact ⟨⟨g9, c9, rfl, by rw [HQ.out, HPk.out]; exact HO9.out.mono (by omega)⟩, HB0.out.trans ((HB2.out.trans (HB9.out.mono hs2)).mono (by omega))⟩
end Go.Proofs.YtblibmalommdkaaGreat.Re
