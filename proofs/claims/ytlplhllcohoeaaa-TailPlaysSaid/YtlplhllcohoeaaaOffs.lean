/-
  For TailPlays: the ways on which the disk refuses (no room, the power off or going off) in Write, Cut and Append; what is pending may lie behind a lesser place.
-/
import Derived.Test.YtlplhllcohoeaaaCrashb
namespace Go.Proofs.Ytlplhllcohoeaaa
open Go.RowKit
section
variable {db mb tb : Nat} {d : Dv} {lo : Int} {N : Nat} {S : Nat → Prop} {F : Option Nat} {Ap : Option Addr} {np cp : Nat} {ps : List (Int × Value)}
theorem Dk.lower {w : World} (h : Dk w db mb d lo N S F Ap np cp ps) {lo' : Int} (hl : lo' ≤ lo) : Dk w db mb d lo' N S F Ap np cp ps := by
  obtain ⟨h1, h2, h3, h4, h5, h6, h7, h8, h9, h10, h11⟩ := h
  exact ⟨h1, h2, h3, ⟨h4.row, h4.len, fun p hp => by
    obtain ⟨a, b⟩ := h4.all p hp
    exact ⟨by omega, b⟩, h4.sp⟩, h5, h6, h7, h8, h9, h10, h11⟩
theorem Dk.relo {w : World} (h : Dk w db mb d lo N S F Ap np cp []) (lo' : Int) : Dk w db mb d lo' N S F Ap np cp [] := by
  obtain ⟨h1, h2, h3, h4, h5, h6, h7, h8, h9, h10, h11⟩ := h
  exact ⟨h1, h2, h3, ⟨h4.row, h4.len, fun p hp => by simp at hp, h4.sp⟩, h5, h6, h7, h8, h9, h10, h11⟩
/-- Cut, where the power is off, or goes off. -/
theorem Cut_down (w : World) (h : Dk w db mb d lo N S F Ap np cp ps) (hd : d.down = true) (n : Int) :
    Calls Try.prog 27 #[.pointer (some ⟨db, 0, none⟩), .string tl, .int .i64 n] w fun e w' => e = .returned (.int .i64 8) ∧ w = w' := by
  have hm := may_down w true h hd
  clear h
  go_enter Try.func27, Try.ntmps27
  go_wp2_with fail
  refine hm.mono ?_
  rintro e w1 ⟨rfl, rfl⟩
  clear hm
  go_wp2_with fail
  go_ret
  exact ⟨rfl, rfl⟩
theorem Cut_off (w : World) {fb : Nat} (h : Dk w db mb d lo N S (some fb) Ap np cp ps) (hd : d.down = false) (f : Fl) (hdf : d.f = some f) (n : Nat) (hn : n ≤ f.now.length) (ha : d.armed = true) (hl : d.left = 0) :
    Calls Try.prog 27 #[.pointer (some ⟨db, 0, none⟩), .string tl, .int .i64 n] w fun e w' => e = .returned (.int .i64 8) ∧ Dk w' db mb { d with down := true } lo N S (some fb) Ap np cp ps ∧ Fr w w' S S := by
  have hm := may_file w true h hd
  have HC := Lib.hid (change_off w h ha hl)
  obtain ⟨An, cn, As, cs, hf0, _⟩ := h.fat' hdf
  obtain ⟨f0, _, _⟩ := hf0.cells
  have g1 : ¬ ((n : Int) < 0) := by omega
  have g2 : ¬ ((f.now.length : Int) < (n : Int)) := by omega
  clear h hf0 hdf hn
  generalize f.now.length = nl at *
  go_enter Try.func27, Try.ntmps27
  go_wp2_with fail
  refine hm.mono ?_
  rintro e w1 ⟨rfl, rfl⟩
  clear hm
  go_wp2_with fail
  refine HC.out.mono ?_
  rintro e w1 ⟨rfl, hd, hf⟩
  have HD := Lib.hid hd
  have HF := Lib.hid hf
  clear hd hf HC
  go_wp2_with fail
  go_ret
  exact ⟨rfl, HD.out, HF.out⟩
/-- Write, where the power goes off. -/
theorem Write_off_file (w : World) {fb : Nat} (h : Dk w db mb d lo N S (some fb) Ap np cp ps) (hd : d.down = false) (at_ : Nat) (hat : (at_ : Int) = d.sum) (A : Option Addr) (n c : Nat) (hn : 0 < n) (hb : at_ + n ≤ 2199023255552)
    (hf : ¬ (d.room < (at_ + n : Nat))) (ha : d.armed = true) (hl : d.left = 0) :
    Calls Try.prog 17 #[.pointer (some ⟨db, 0, none⟩), .string tl, .int .i64 at_, .slice A n c] w fun e w' => e = .returned (.int .i64 8) ∧ Dk w' db mb { d with down := true } lo N S (some fb) Ap np cp ps ∧ Fr w w' S S := by
  have hm := may_file w false h hd
  obtain ⟨f, An, cn, As, cs, q1, hff, _⟩ := h.fat
  have q : d.sum = f.now.length := by simp [Dv.sum, q1]
  obtain ⟨f0, _, _⟩ := hff.cells
  have hat2 : at_ ≤ f.now.length := by omega
  have hft := fits_file w h ((at_ + n : Nat) : Int) (by omega) (by omega)
  rw [show fitE d ((at_ + n : Nat) : Int) = 0 from if_neg (fun h => hf h.2)] at hft
  have q2 : IntKind.i64.wrap ((at_ : Int) + n) = ((at_ + n : Nat) : Int) := by rw [IntWalk.i64_in _ (by omega)]; omega
  have q3 : (f.now.length : Int) < ((at_ + n : Nat) : Int) := by omega
  have q4 : ¬ n = 0 := by omega
  have q5 : max (f.now.length : Int) ((at_ + n : Nat) : Int) = ((at_ + n : Nat) : Int) := by omega
  have HH := Lib.hid h
  clear h hff q q1 hat hf
  generalize f.now.length = nl at *
  go_enter Try.func17, Try.ntmps17
  go_wp2_with fail
  refine hm.mono ?_
  rintro e w1 ⟨rfl, rfl⟩
  clear hm
  go_wp2_with fail
  refine hft.mono ?_
  rintro e w1 ⟨rfl, hbb⟩
  have HD1 := Lib.hid (HH.out.up hbb)
  have HB := Lib.hid hbb
  clear hft hbb
  go_wp2_with fail
  refine (change_off w1 HD1.out ha hl).mono ?_
  rintro e w2 ⟨rfl, hd2, hf2⟩
  have HD2 := Lib.hid hd2
  have HF2 := Lib.hid hf2
  clear hd2 hf2 HD1 HH
  go_wp2_with fail
  go_ret
  exact ⟨rfl, HD2.out, (Fr.of_below HB.out).trans HF2.out⟩
theorem Write_off_new (w : World) (h : Dk w db mb d lo N S none Ap np cp ps) (hd : d.down = false) (A : Option Addr) (n c : Nat) (hn : 0 < n) (hb : n ≤ 2199023255552)
    (hf : ¬ (d.room < (n : Int))) (ha : d.armed = true) (hl : d.left = 0) :
    Calls Try.prog 17 #[.pointer (some ⟨db, 0, none⟩), .string tl, .int .i64 0, .slice A n c] w fun e w' => e = .returned (.int .i64 8) ∧ Dk w' db mb { d with down := true } lo N S none Ap np cp ps ∧ Fr w w' S S := by
  have hm := may_new w h hd
  have hft := fits_none w h (n : Int) (by omega) (by omega)
  rw [show fitE d (n : Int) = 0 from if_neg (fun h => hf h.2)] at hft
  have q2 : IntKind.i64.wrap ((0 : Int) + n) = (n : Int) := by rw [IntWalk.i64_in _ (by omega)]; omega
  have q4 : ¬ n = 0 := by omega
  have q5 : max (0 : Int) (n : Int) = (n : Int) := by omega
  have q6 : (0 : Int) < (n : Int) := by omega
  have q7 : IntKind.i64.wrap (n : Int) = (n : Int) := IntWalk.i64_in _ (by omega)
  have HH := Lib.hid h
  clear h hf
  go_enter Try.func17, Try.ntmps17
  go_wp2_with fail
  refine hm.mono ?_
  rintro e w1 ⟨rfl, rfl⟩
  clear hm
  go_wp2_with fail
  refine hft.mono ?_
  rintro e w1 ⟨rfl, hbb⟩
  have HD1 := Lib.hid (HH.out.up hbb)
  have HB := Lib.hid hbb
  clear hft hbb
  go_wp2_with fail
  refine (change_off w1 HD1.out ha hl).mono ?_
  rintro e w2 ⟨rfl, hd2, hf2⟩
  have HD2 := Lib.hid hd2
  have HF2 := Lib.hid hf2
  clear hd2 hf2 HD1 HH
  go_wp2_with fail
  go_ret
  exact ⟨rfl, HD2.out, (Fr.of_below HB.out).trans HF2.out⟩
/-- Write, where there is no room for a file's first bytes. -/
theorem Write_fails_new (w : World) (h : Dk w db mb d lo N S none Ap np cp ps) (hd : d.down = false) (A : Option Addr) (n c : Nat) (hn : 0 < n) (hb : n ≤ 2199023255552) (hf : d.room < (n : Int)) :
    Calls Try.prog 17 #[.pointer (some ⟨db, 0, none⟩), .string tl, .int .i64 0, .slice A n c] w fun e w' => e = .returned (.int .i64 7) ∧ Below w.heap.size w w' := by
  have hm := may_new w h hd
  have hft := fits_none w h (n : Int) (by omega) (by omega)
  have hsm : d.sum = 0 := by simp [Dv.sum, h.gone]
  rw [show fitE d (n : Int) = 7 from if_pos ⟨by omega, hf⟩] at hft
  have q2 : IntKind.i64.wrap ((0 : Int) + n) = (n : Int) := by rw [IntWalk.i64_in _ (by omega)]; omega
  have q4 : ¬ n = 0 := by omega
  have q5 : max (0 : Int) (n : Int) = (n : Int) := by omega
  have q6 : (0 : Int) < (n : Int) := by omega
  have q7 : IntKind.i64.wrap (n : Int) = (n : Int) := IntWalk.i64_in _ (by omega)
  clear h hf hsm
  go_enter Try.func17, Try.ntmps17
  go_wp2_with fail
  refine hm.mono ?_
  rintro e w1 ⟨rfl, rfl⟩
  clear hm
  go_wp2_with fail
  refine hft.mono ?_
  rintro e w1 ⟨rfl, hbb⟩
  have HB := Lib.hid hbb
  clear hft hbb
  go_wp2_with fail
  go_ret
  exact ⟨rfl, HB.out⟩
/-- Append, where the disk refuses. -/
theorem Append_err (w : World) (n m c : Nat) (A : Option Addr) (hT : TlAt w tb db n) (hcap : n + m ≤ 16777216) (z : Int) (hz : z ≠ 0) (Q : World → Prop)
    (HW : Calls Try.prog 17 #[.pointer (some ⟨db, 0, none⟩), .string tl, .int .i64 n, .slice A m c] w.drew fun e w' => e = .returned (.int .i64 z) ∧ Q w' ∧ Only w.drew w' S) (hS : ¬ S tb) :
    Calls Try.prog 12 #[.pointer (some ⟨tb, 0, none⟩), .slice A m c] w fun e w' => e = .returned (.tuple #[.int .i64 0, .int .i64 z]) ∧ Q w' ∧ Only w.drew w' S := by
  have c0 := hT.c0
  have c1 := hT.c1
  have htl := hT.lt
  have q1 : IntKind.i64.wrap (16777216 - (n : Int)) = 16777216 - (n : Int) := IntWalk.i64_in _ (by omega)
  have q3 : ¬ (16777216 - (n : Int) < (m : Int)) := by omega
  have HT := Lib.hid hT
  have HSS := Lib.hid hS
  have HHW := Lib.hid HW
  clear hT HW hS
  go_enter Try.func12, Try.ntmps12
  go_wp2_with fail
  go_region_held3 (fun w' => w'.cell? ⟨tb, 0, none⟩ = some (.pointer (some ⟨db, 0, none⟩)) ∧ w'.cell? ⟨tb, 1, none⟩ = some (.int .i64 n)) (first | go_keep | exact tl_keep hp1.2 HT.out HSS.out | (trace_state; fail))
    ((go_at_call_of 17 (Value.pointer (some ⟨db, 0, Option.none⟩)); refine HHW.out.mono ?_; rintro e wp1 ⟨rfl, hp1⟩))
  have HP1 := Lib.hid hp1
  clear hp1 c0 c1 HHW
  go_wp2_with fail
  go_ret2
  exact ⟨rfl, HP1.out⟩
end
end Go.Proofs.Ytlplhllcohoeaaa
