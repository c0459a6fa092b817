/-
  The document's example: awake answers true.
-/
import Derived.Test.YtpnajbpakeimiaaIWalke
namespace Go.Proofs.Ytpnajbpakeimiaa
open Go.RowKit
theorem rd_new1 (w : World) (s : R) (g : Nat) (hg : g = w.heap.size) : Rd (w.alloc (.cells #[.int .i64 s.1, .int .i64 s.2] 36)) (w.alloc (.cells #[.int .i64 s.1, .int .i64 s.2] 36)).heap.size (some ⟨g, 0, none⟩) [s] := by
  subst hg
  intro k v hv
  have hk := (List.getElem?_eq_some_iff.1 hv).1
  obtain rfl : k = 0 := by simpa using hk
  simp at hv; subst hv
  exact ⟨w.heap.size, 0, rfl, by simp, by rw [cell_new]; rfl, by rw [cell_new]; rfl⟩
set_option maxRecDepth 40000 in
set_option maxHeartbeats 1000000 in
theorem awake_any (w : World) : Calls Try.prog 7 #[] w fun e w' => e = .returned (.bool true) ∧ Below w.heap.size w w' := by
  obtain ⟨Z, hZ, hmk⟩ := make_bytes 200 200 rfl (by omega)
  have c70 : (w.alloc (.cells Z 5)).cell? ⟨w.heap.size, 70, none⟩ = some (.int .u8 0) := by rw [cell_new]; exact hZ 70 (by omega)
  have c199 : (w.alloc (.cells Z 5)).cell? ⟨w.heap.size, 199, none⟩ = some (.int .u8 0) := by rw [cell_new]; exact hZ 199 (by omega)
  have fz : ∀ j, (w.alloc (.cells Z 5)).frozen? ⟨w.heap.size, j, none⟩ = false := fun j => by
    unfold World.frozen?
    rw [heap_alloc_new]
    simp
  have f70 := fz 70
  have f199 := fz 199
  obtain ⟨W, hW⟩ : ∃ W, W = ((w.alloc (.cells Z 5)).setCell ⟨w.heap.size, 70, none⟩ (.int .u8 10)).setCell ⟨w.heap.size, 199, none⟩ (.int .u8 10) := ⟨_, rfl⟩
  have HRD := Lib.hid (rd_b0 w Z hZ W hW)
  have HB0 : Hid (Below w.heap.size w W) := Lib.hid (by subst hW; exact (((Below.refl _ _).alloc (Nat.le_refl _) _).setCell (Nat.le_refl _) _).setCell (Nat.le_refl _) _)
  have hsW : w.heap.size < W.heap.size := by subst hW; simp
  have hmw := hmk w
  clear fz hZ hmk
  generalize w.alloc (.cells Z 5) = W0 at *
  go_enter Try.func7, Try.ntmps7
  go_wp2_with fail
  rw [← hW]
  clear c70 c199 f70 f199 hmw hW
  refine (of_any W (some ⟨w.heap.size, 0, Option.none⟩) 200 200 b0 b0_len HRD.out (by simp) (by omega)).mono ?_
  rintro e w2 ⟨⟨xb, cb, db, mb, fb, S, rfl, hl⟩, hb2⟩
  have HL2 := Lib.hid hl
  have HB2 := Lib.hid (HB0.out.trans (hb2.mono (Nat.le_of_lt hsW)))
  have hsz2 := hb2.size
  clear hl hb2
  go_wp2_with fail
  refine (LCount w2 HL2.out rfl b0_byt (by rw [b0_len]; omega) 10 200 (by omega) (by rw [b0_len]; omega) (by omega) (by omega) (by omega) hsz2).mono ?_
  rintro e w3 ⟨rfl, hl, hb3⟩
  rw [s12_cnt.1]
  have HL3 : Hid (Live W.heap.size w3 b0 xb cb db mb fb S { nu 2097152 with f := some ⟨b0, b0, true⟩ } s1.2 (0 + (200 - 10)) s1.1) := Lib.hid hl
  have HB3 := Lib.hid (HB2.out.trans (hb3.mono (Nat.le_of_lt hsW)))
  have hsz3 := hb3.size
  clear hl hb3
  go_wp2_with fail
  refine (LCount w3 HL3.out rfl b0_byt (by rw [b0_len]; omega) 64 200 (by omega) (by rw [b0_len]; omega) (by rw [s1_rd]; omega) (by rw [s1_rd]; omega) (by omega) (by omega)).mono ?_
  rintro e w4 ⟨rfl, hl, hb4⟩
  rw [s12_cnt.2]
  have HL4 : Hid (Live W.heap.size w4 b0 xb cb db mb fb S { nu 2097152 with f := some ⟨b0, b0, true⟩ } s2.2 (0 + (200 - 10) + (200 - 64)) s2.1) := Lib.hid hl
  have HB4 := Lib.hid (HB3.out.trans (hb4.mono (Nat.le_of_lt hsW)))
  have hsz4 := hb4.size
  clear hl hb4
  go_wp2_with fail
  refine (Known_any w4 HL4.out.ix (HL4.out.keys (by rw [b0_len]; omega)) (by omega)).mono ?_
  rintro e w5 ⟨⟨A5, m5, c5, l5, rfl, hO5, his⟩, hb5⟩
  obtain rfl := s2_is his
  have HO5 := Lib.hid hO5
  have HB5 := Lib.hid (HB4.out.trans (hb5.mono (by have := HB4.out.size; omega)))
  have HL5 := Lib.hid (HL4.out.up hb5)
  obtain rfl : m5 = 1 := hO5.1.symm
  clear hO5 hb5 his
  go_wp2_with fail
  have hB6 : Below w5.heap.size w5 (w5.alloc (.cells #[.int .i64 1, .int .i64 4] 36)) := (Below.refl _ _).alloc (Nat.le_refl _) _
  have HB6 := Lib.hid hB6
  have HR6 := Lib.hid (rd_new1 w5 (1, 4) _ rfl)
  clear hB6
  refine (Same_any A5 1 c5 _ 1 1 _ [(1, 4)] [(1, 4)] rfl (HO5.out.rd.up HB6.out) (by omega) rfl HR6.out (by omega)).mono ?_
  rintro e w7 ⟨rfl, hb7⟩
  have HB7 := Lib.hid (below_up HB6.out hb7)
  clear hb7
  have hd : decide (([(1, 4)] : List R) = [(1, 4)]) = true := by simp
  rw [hd]
  clear hd
  have HI7 := Lib.hid (HL5.out.up HB7.out).ix
  go_wp2_with fail
  refine (IRead_any w7 HI7.out).mono ?_
  rintro e w8 ⟨rfl, rfl⟩
  rw [s2_rd]
  go_wp2_with fail
  go_ret
  exact ⟨rfl, HB5.out.trans (HB7.out.mono HB5.out.size)⟩
end Go.Proofs.Ytpnajbpakeimiaa
