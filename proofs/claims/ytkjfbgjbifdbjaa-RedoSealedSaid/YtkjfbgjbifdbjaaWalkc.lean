/-
  What le.Bytes and the reference's Bytes and number answer, of numbers that fit.
-/
import Derived.Test.YtkjfbgjbifdbjaaWalkb
import Derived.Laws.OwnMore
namespace Go.Proofs.Ytkjfbgjbifdbjaa
open Go.RowKit
def dv : Nat → Int → Int
  | 0, n => n
  | k+1, n => dv k n / 256
theorem dv_nn (k : Nat) {n : Int} (h : 0 ≤ n) : 0 ≤ dv k n := by
  induction k with
  | zero => exact h
  | succ k ih => exact Int.ediv_nonneg ih (by decide)
theorem dv_le (k : Nat) {n : Int} (h : 0 ≤ n) : dv k n ≤ n := by
  induction k with
  | zero => exact Int.le_refl _
  | succ k ih => exact Int.le_trans (Int.ediv_le_self _ (dv_nn k h)) ih
/-- A number's lowest bytes. -/
def leB (n : Int) (w : Nat) : List Int := (List.range w).map fun i => dv i n % 256
theorem leB_length (n : Int) (w : Nat) : (leB n w).length = w := by simp [leB]
theorem leB_get (n : Int) (w k : Nat) (h : k < w) : (leB n w)[k]? = some (dv k n % 256) := by simp [leB, h]
theorem leB_bytes (n : Int) (w : Nat) : Bytes (leB n w) := by
  intro b hb
  simp only [leB, List.mem_map] at hb
  obtain ⟨i, _, rfl⟩ := hb
  omega
theorem leB4 (n : Int) : leB n 4 = [n % 256, n / 256 % 256, n / 256 / 256 % 256, n / 256 / 256 / 256 % 256] := rfl
theorem leB1 (n : Int) : leB n 1 = [n % 256] := rfl
theorem OwnB.cell {w : World} {base g n c : Nat} {l : List Int} (h : OwnB w base (some ⟨g, 0, .none⟩) n c l) (k : Nat) (hk : k < n) (x : Int) (hx : l[k]? = some x) : w.cell? ⟨g, k, .none⟩ = some (.int .u8 x) := by
  rw [h.2.cellAt k (by omega), bcells_get, hx]; rfl
theorem OwnB.set {w : World} {base g n c : Nat} {l : List Int} (h : OwnB w base (some ⟨g, 0, .none⟩) n c l) (k : Nat) (x : Int) : OwnB (w.setCell ⟨g, k, .none⟩ (.int .u8 x)) base (some ⟨g, 0, .none⟩) n c (l.set k x) := by
  refine ⟨by simpa using h.1, ?_⟩
  have := (h.2.stored k (.int .u8 x)).1
  simpa [bcells, List.map_set] using this
theorem OwnB.base_le {w : World} {base g n c : Nat} {l : List Int} (h : OwnB w base (some ⟨g, 0, .none⟩) n c l) : base ≤ g ∧ g < w.heap.size := h.2.lt g rfl
/-- 'make([]byte, n)'. -/
theorem make_bytes (n : Nat) (N : Int) (hN : N = (n : Int)) (hn : n ≤ 1048576) : ∃ Z : Array Value, Z.toList = List.replicate n (.int .u8 0) ∧ ∀ W : World, (Instr.makeSlice 25 (.int .i64 N) (.int .i64 N)).run Try.prog W = .ok (.slice (some ⟨W.heap.size, 0, none⟩) n n) (W.alloc (.cells Z 5)) := by
  subst hN
  obtain ⟨i0, hi, hz0, hz1, hz2⟩ := info_parts info5
  refine ⟨madeCells (Value.int .u8 0).cells (n * 1), ?_, fun W => ?_⟩
  · rw [Nat.mul_one]; exact toList_madeCells_one _ _
  · have h := run_makeSlice (P := Try.prog) (w := W) 25 5 i0 (.int .u8 0) (by kernel_rfl) hi hz0 .i64 .i64 (n : Int) (n : Int) (by omega) (by omega) (by rw [hz1]; simp; omega) (by rw [hz2]; omega) (by omega)
    rw [hz1] at h
    simpa using h
theorem own_made (w : World) (Z : Array Value) (n : Nat) (hn : n ≤ maxLen) (hZ : Z.toList = List.replicate n (.int .u8 0)) (g : Nat) (hg : g = w.heap.size) : OwnB (w.alloc (.cells Z 5)) w.heap.size (some ⟨g, 0, none⟩) n n (List.replicate n 0) := by
  subst hg
  refine ⟨by simp, ?_⟩
  have := World.ownsRow_lit (base := w.heap.size) (e := 5) (size := 1) w Z n (Nat.le_refl _) hn (by rw [← Array.length_toList, hZ]; simp)
  rw [hZ] at this
  simpa [bcells] using this
theorem leB_part (n : Int) (w k : Nat) (h : k < w) : ((leB n w).take k ++ List.replicate (w - k) 0).set k (dv k n % 256) = (leB n w).take (k+1) ++ List.replicate (w - (k+1)) 0 := by
  have hl : ((leB n w).take k).length = k := by rw [List.length_take, leB_length]; omega
  rw [take_snoc _ k _ (leB_get n w k h), List.set_append_right _ _ (by omega), hl, Nat.sub_self, show w - k = (w - (k+1)) + 1 by omega, List.replicate_succ]
  simp
set_option maxHeartbeats 1000000 in
theorem Bytes4_any (n : Int) (w : World) (h0 : 0 ≤ n) (h1 : n < 4294967296) :
    Calls Try.prog 30 #[.int .i64 n, .int .i64 4] w fun e w' => (∃ g, e = .returned (.tuple #[.slice (some ⟨g, 0, none⟩) 4 4, .int .i64 0]) ∧ OwnB w' w.heap.size (some ⟨g, 0, none⟩) 4 4 (leB n 4)) ∧ Below w.heap.size w w' := by
  obtain ⟨Z, hZ, hmk⟩ := make_bytes 4 4 rfl (by omega)
  have hz : (n / 4294967296 != 0) = false := by simp; omega
  have HO := Lib.hid (own_made w Z 4 (by decide) hZ _ rfl)
  clear hZ
  go_enter Try.func30, Try.ntmps30
  go_wp2_with fail
  go_loopw [32] (fun i wr => ∃ k : Nat, k ≤ 4 ∧ i = .int .i64 k ∧ OwnB wr w.heap.size (some ⟨w.heap.size, 0, none⟩) 4 4 ((leB n 4).take k ++ List.replicate (4 - k) 0) ∧ Below w.heap.size w wr) (fun i _ => 4 - (intOf i).toNat)
  case atStart => exact ⟨0, by omega, rfl, HO.out, (Below.refl _ _).alloc (Nat.le_refl _) _⟩
  case round =>
    clear HO
    obtain ⟨k, hk, rfl, hO, hb⟩ := hrel
    by_cases hlt : k < 4
    · have q1 := hO.2.frozenAt k
      have hbl := hO.base_le.2
      have q0 : wr.cell? ⟨w.heap.size, k, none⟩ = some (.int .u8 0) := hO.cell k hlt 0 (by
        have hl : ((leB n 4).take k).length = k := by rw [List.length_take, leB_length]; omega
        rw [List.getElem?_append_right (by omega), hl, Nat.sub_self, List.getElem?_replicate, if_pos (by omega)])
      have HS := Lib.hid (hO.set k (dv k n % 256))
      have HP := Lib.hid (leB_part n 4 k hlt)
      have HB := Lib.hid (hb.setCell (p := ⟨w.heap.size, k, none⟩) (Nat.le_refl _) (.int .u8 (dv k n % 256)))
      have HD : Hid (dv 0 n = n ∧ dv 1 n = n / 256 ∧ dv 2 n = n / 65536 ∧ dv 3 n = n / 16777216) := Lib.hid ⟨rfl, rfl, by simp only [dv]; omega, by simp only [dv]; omega⟩
      clear hO hb
      rcases (show k = 0 ∨ k = 1 ∨ k = 2 ∨ k = 3 by omega) with rfl | rfl | rfl | rfl
      all_goals
        go_wp2_with fail
        go_roundw
        case rel =>
          obtain ⟨e0, e1, e2, e3⟩ := HD.out
          have hs := HS.out
          rw [HP.out] at hs
          have hb := HB.out
          simp only [e0, e1, e2, e3] at hs hb
          first | exact ⟨1, by omega, rfl, hs, hb⟩ | exact ⟨2, by omega, rfl, hs, hb⟩ | exact ⟨3, by omega, rfl, hs, hb⟩ | (rw [show n / 16777216 % 256 = n / 16777216 by omega] at hs hb; exact ⟨4, by omega, rfl, hs, hb⟩)
        case measure => simp [intOf]
    · obtain rfl : k = 4 := by omega
      go_wp2_with fail
      go_ret2
      exact ⟨⟨_, rfl, by simpa [List.take_of_length_le (Nat.le_of_eq (leB_length n 4))] using hO⟩, hb⟩
theorem Bytes1_any (n : Int) (w : World) (h0 : 0 ≤ n) (h1 : n < 256) :
    Calls Try.prog 30 #[.int .i64 n, .int .i64 1] w fun e w' => (∃ g, e = .returned (.tuple #[.slice (some ⟨g, 0, none⟩) 1 1, .int .i64 0]) ∧ OwnB w' w.heap.size (some ⟨g, 0, none⟩) 1 1 (leB n 1)) ∧ Below w.heap.size w w' := by
  obtain ⟨Z, hZ, hmk⟩ := make_bytes 1 1 rfl (by omega)
  have hz : (n / 256 != 0) = false := by simp; omega
  have HO := Lib.hid (own_made w Z 1 (by decide) hZ _ rfl)
  clear hZ
  go_enter Try.func30, Try.ntmps30
  go_wp2_with fail
  go_loopw [32] (fun i wr => ((i = .int .i64 0 ∧ OwnB wr w.heap.size (some ⟨w.heap.size, 0, none⟩) 1 1 [0]) ∨ (i = .int .i64 1 ∧ OwnB wr w.heap.size (some ⟨w.heap.size, 0, none⟩) 1 1 (leB n 1))) ∧ Below w.heap.size w wr) (fun i _ => 1 - (intOf i).toNat)
  case atStart => exact ⟨.inl ⟨rfl, HO.out⟩, (Below.refl _ _).alloc (Nat.le_refl _) _⟩
  case round =>
    clear HO
    obtain ⟨⟨rfl, hO⟩ | ⟨rfl, hO⟩, hb⟩ := hrel
    · have q1 := hO.2.frozenAt 0
      have hbl := hO.base_le.2
      have q0 : wr.cell? ⟨w.heap.size, 0, none⟩ = some (.int .u8 0) := hO.cell 0 (by omega) 0 rfl
      have HS := Lib.hid (hO.set 0 n)
      have HB := Lib.hid (hb.setCell (p := ⟨w.heap.size, 0, none⟩) (Nat.le_refl _) (.int .u8 n))
      have E : Hid (n = n % 256) := Lib.hid (by omega)
      clear hO hb
      go_wp2_with fail
      go_roundw
      case rel => exact ⟨.inr ⟨rfl, by rw [leB1, ← E.out]; exact HS.out⟩, HB.out⟩
      case measure => simp [intOf]
    · go_wp2_with fail
      go_ret2
      exact ⟨⟨_, rfl, hO⟩, hb⟩
theorem RefBytes_any (n : Int) (d : Nat) (w : World) (h0 : 0 ≤ n) (h1 : n ≤ 9223372036854775807) (hd : 1 ≤ d) (hd8 : d ≤ 8) (hz : dv d n = 0) :
    Calls Try.prog 15 #[.int .i64 n, .int .i64 (d : Int)] w fun e w' => (∃ g c, e = .returned (.tuple #[.slice (some ⟨g, 0, none⟩) d c, .int .i64 0]) ∧ OwnB w' w.heap.size (some ⟨g, 0, none⟩) d c (leB n d)) ∧ Below w.heap.size w w' := by
  obtain ⟨i0, hi, hz0, hz1, hz2⟩ := info_parts info5
  have HZ := Lib.hid hz
  clear hz
  go_enter Try.func15, Try.ntmps15
  go_wp2_with fail
  go_loopw [0, 6, 7] (fun x v i wr => ∃ (k c : Nat) (A : Option Addr), k ≤ d ∧ x = .int .i64 (dv k n) ∧ v = .slice A k c ∧ i = .int .i64 k ∧ OwnB wr w.heap.size A k c ((leB n d).take k) ∧ Below w.heap.size w wr) (fun _ _ i _ => d - (intOf i).toNat)
  case atStart => exact ⟨0, 0, none, by omega, rfl, rfl, rfl, OwnB.nil _ _, Below.refl _ _⟩
  case round =>
    obtain ⟨k, c, A, hk, rfl, rfl, rfl, hO, hb⟩ := hrel
    have hn0 := dv_nn k h0
    have hn1 := Int.le_trans (dv_le k h0) h1
    by_cases hlt : k < d
    · have HO := Lib.hid hO
      have HB := Lib.hid hb
      have hsz := hb.size
      have HD : Hid (dv (k+1) n = dv k n / 256) := Lib.hid rfl
      have HT : Hid ((leB n d).take (k+1) = (leB n d).take k ++ [dv k n % 256]) := Lib.hid (take_snoc _ k _ (leB_get n d k hlt))
      clear hO hb
      generalize dv k n = m at *
      go_wp2_with (at_builtin; refine wpList_append_own _ rfl _ _ 25 rfl w.heap.size 5 i0 _ 1 1 Try.underlying25 hi hz0 hz1 hz2 rfl (by decide) _ _ _ rfl (HO.out.alloc _).2 ⟨wr.heap.size, 0, none⟩ 1 1 (bcells [m % 256]) rfl rfl (newb_one _ _ _ rfl) (bcells_one _) (by unfold maxLen; omega) (by omega) (by simp; omega) ?_)
      intro v' w1 hown' hgrow _
      obtain ⟨⟨A'', c'', hv, hown2⟩, hb3, _, _, _⟩ := appB_step HO.out HB.out hsz ((Below.refl _ _).alloc (Nat.le_refl _) _) (m := 1) (K := [m % 256]) rfl hown' hgrow
      rw [hv]
      clear hgrow hown' hv
      go_wp2_with fail
      go_roundw
      case rel => exact ⟨k+1, c'', A'', by omega, by rw [HD.out], rfl, by go_num, by rw [HT.out]; exact hown2, hb3⟩
      case measure => simp [intOf]; omega
    · obtain rfl : d = k := by omega
      have e1 := HZ.out
      clear hlt
      obtain ⟨g, rfl, _, _, _, _⟩ := hO.form (by omega)
      go_wp2_with fail
      go_ret2
      exact ⟨⟨_, _, rfl, by simpa [List.take_of_length_le (Nat.le_of_eq (leB_length n d))] using hO⟩, hb⟩
theorem number_any (n : Int) (d : Nat) (w : World) (h0 : 0 ≤ n) (h1 : n ≤ 9223372036854775807) (hd : 1 ≤ d) (hd8 : d ≤ 8) (hz : dv d n = 0) :
    Calls Try.prog 21 #[.int .i64 n, .int .i64 (d : Int)] w fun e w' => (∃ g c, e = .returned (.slice (some ⟨g, 0, none⟩) d c) ∧ OwnB w' w.heap.size (some ⟨g, 0, none⟩) d c (leB n d)) ∧ Below w.heap.size w w' := by
  have HZ := Lib.hid hz
  clear hz
  go_enter Try.func21, Try.ntmps21
  go_wp2_with fail
  refine (RefBytes_any n d _ h0 h1 hd hd8 HZ.out).mono ?_
  rintro e w1 ⟨⟨g, c, rfl, hO⟩, hb⟩
  go_wp2_with fail
  go_ret
  exact ⟨⟨g, c, rfl, hO⟩, hb⟩
end Go.Proofs.Ytkjfbgjbifdbjaa
