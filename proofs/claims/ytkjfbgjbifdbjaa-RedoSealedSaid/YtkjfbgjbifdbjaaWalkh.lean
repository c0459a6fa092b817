/-
  The reader of bytes: On, next, Take, Int, Zeros, Left, where there are enough bytes.
-/
import Derived.Test.YtkjfbgjbifdbjaaWalkg
import Derived.Test.YtkjfbgjbifdbjaaDraw
namespace Go.Proofs.Ytkjfbgjbifdbjaa
open Go.RowKit
/-- A reader at block rb: its bytes, the place. -/
structure Rdr (w : World) (rb : Nat) (A : Option Addr) (n c at_ : Nat) (l : List Int) : Prop where
  c0 : w.cell? ⟨rb, 0, none⟩ = some (.slice A n c)
  c1 : w.cell? ⟨rb, 1, none⟩ = some (.int .i64 (at_ : Int))
  f1 : w.frozen? ⟨rb, 1, none⟩ = false
  rd : RdB w rb A l
  len : l.length = n
  cap : n ≤ c
  lt : rb < w.heap.size
theorem Rdr.grown {w w' : World} {rb n c at_ : Nat} {A : Option Addr} {l : List Int} (h : Rdr w rb A n c at_ l) (hb : Below w.heap.size w w') : Rdr w' rb A n c at_ l :=
  ⟨(hb.cell (p := ⟨rb, 0, none⟩) h.lt).trans h.c0, (hb.cell (p := ⟨rb, 1, none⟩) h.lt).trans h.c1, (hb.frozen (p := ⟨rb, 1, none⟩) h.lt).trans h.f1, h.rd.below hb (Nat.le_of_lt h.lt), h.len, h.cap, Nat.lt_of_lt_of_le h.lt hb.size⟩
theorem Rdr.moved {w : World} {rb n c at_ : Nat} {A : Option Addr} {l : List Int} (h : Rdr w rb A n c at_ l) (k : Nat) : Rdr (w.setCell ⟨rb, 1, none⟩ (.int .i64 (k : Int))) rb A n c k l :=
  ⟨(World.cell?_setCell_other _ _ _ _ (by intro hh; injection hh with _ h2 _; omega)).trans h.c0, World.cell?_setCell_same _ _ _ h.c1, by rw [World.frozen?_setCell]; exact h.f1,
    h.rd.keep fun p hp => World.cell?_setCell_other _ _ _ _ (by intro hh; rw [← hh] at hp; exact absurd hp (Nat.lt_irrefl _)), h.len, h.cap, by simpa using h.lt⟩
theorem Rdr.drewN {w : World} {rb n c at_ : Nat} {A : Option Addr} {l : List Int} (h : Rdr w rb A n c at_ l) (k : Nat) : Rdr (w.drewN k) rb A n c at_ l := ⟨h.c0, h.c1, h.f1, h.rd, h.len, h.cap, h.lt⟩
theorem grown_setCell (w : World) (a : Addr) (v : Value) : w.grownBy (w.setCell a v) (some a.block) := by
  have hb := (Below.refl 0 w).setCell (p := a) (Nat.zero_le _) v
  exact ⟨hb.os, hb.tape, hb.output, hb.size, fun k _ hne => Below.heap_setCell w a v k (fun e => hne (by rw [e]))⟩
theorem drewN_drewN (w : World) (a b : Nat) : (w.drewN a).drewN b = w.drewN (a + b) := by simp [World.drewN, Nat.add_assoc]
theorem Left_any (w : World) (rb n c at_ : Nat) (A : Option Addr) (l : List Int) (h : Rdr w rb A n c at_ l) (hn : n ≤ 1048576) (hat : at_ ≤ n) :
    Calls Try.prog 27 #[.pointer (some ⟨rb, 0, none⟩)] w fun e w' => e = .returned (.int .i64 ((n : Int) - at_)) ∧ ∃ k, w' = w.drewN k := by
  have c0 := h.c0
  have c1 := h.c1
  clear h
  go_enter Try.func27, Try.ntmps27
  go_wp2_with fail
  go_quiet (fail)
  go_wp2_with fail
  go_ret
  exact ⟨rfl, _, rfl⟩
/-- The next bytes: the address is what lies at the place, or whatever, where none are asked. -/
theorem next_any (w : World) (rb n c at_ : Nat) (A : Option Addr) (l : List Int) (h : Rdr w rb A n c at_ l) (hn : n ≤ 1048576) (hc : c ≤ 9223372036854775807) (m : Nat) (hm : at_ + m ≤ n) (hm1 : 1 ≤ m) :
    Calls Try.prog 32 #[.pointer (some ⟨rb, 0, none⟩), .int .i64 (m : Int)] w fun e w' => (∃ b o c', e = .returned (.tuple #[.slice (some ⟨b, o, none⟩) m c', .int .i64 0]) ∧ RdB w rb (some ⟨b, o, none⟩) ((l.drop at_).take m)) ∧ ∃ k, w' = w.drewN k := by
  obtain ⟨s, hs⟩ := get_some l 0 (by rw [h.len]; omega)
  obtain ⟨b, off, rfl, hbl, hx⟩ := h.rd 0 s hs
  clear hx hs
  have HP := Lib.hid (h.rd.piece at_ m)
  have c0 := h.c0
  have c1 := h.c1
  have hcap := h.cap
  clear h
  go_enter Try.func32, Try.ntmps32
  go_wp2_with fail
  go_quiet (fail)
  go_wp2_with fail
  go_quiet (fail)
  go_wp2_with fail
  rw [Nat.add_sub_cancel_left]
  go_ret2
  exact ⟨⟨_, _, _, rfl, HP.out⟩, _, drewN_drewN _ _ _⟩
theorem RInt_any (w : World) (rb n c at_ : Nat) (A : Option Addr) (l : List Int) (h : Rdr w rb A n c at_ l) (hy : Bytes l) (hn : n ≤ 1048576) (hc : c ≤ 9223372036854775807) (m : Nat) (hm : at_ + m ≤ n) (hm1 : 1 ≤ m) (hm4 : m ≤ 4) :
    Calls Try.prog 25 #[.pointer (some ⟨rb, 0, none⟩), .int .i64 (m : Int)] w fun e w' => e = .returned (.tuple #[.int .i64 (leVal ((l.drop at_).take m)), .int .i64 0]) ∧ Rdr w' rb A n c (at_ + m) l ∧ w.grownBy w' (some rb) := by
  have H := Lib.hid h
  have HY := Lib.hid hy
  clear h hy
  go_enter Try.func25, Try.ntmps25
  go_wp2_with fail
  refine (next_any _ rb n c at_ A l H.out hn hc m hm hm1).mono ?_
  rintro e w1 ⟨⟨b1, o1, c1, rfl, hR⟩, k, rfl⟩
  have HR := Lib.hid hR
  clear hR
  have hl : ((l.drop at_).take m).length = m := by rw [List.length_take, List.length_drop, H.out.len]; omega
  have HL := Lib.hid hl
  clear hl
  go_wp2_with fail
  refine (Int_any _ m c1 _ _ HL.out ((HR.out.drewN k).more (Nat.le_of_lt H.out.lt)) (bytes_take (bytes_drop HY.out _) _) hm1 hm4).mono ?_
  rintro e w2 ⟨rfl, rfl⟩
  have d1 := (H.out.drewN k).c1
  have df := (H.out.drewN k).f1
  have HM : Hid (Rdr ((w.drewN k).setCell ⟨rb, 1, none⟩ (.int .i64 ((at_ + m : Nat) : Int))) rb A n c (at_ + m) l) := Lib.hid ((H.out.drewN k).moved (at_ + m))
  have HG : Hid (w.grownBy ((w.drewN k).setCell ⟨rb, 1, none⟩ (.int .i64 ((at_ + m : Nat) : Int))) (some rb)) := Lib.hid (by
    have hg := grown_setCell (w.drewN k) ⟨rb, 1, none⟩ (.int .i64 ((at_ + m : Nat) : Int))
    exact ⟨hg.os, hg.tape, hg.output, hg.size, hg.block⟩)
  rw [Int.natCast_add] at HM HG
  go_wp2_with fail
  go_ret2
  exact ⟨rfl, HM.out, HG.out⟩
theorem Take_any (w : World) (rb n c at_ : Nat) (A : Option Addr) (l : List Int) (h : Rdr w rb A n c at_ l) (hn : n ≤ 1048576) (hc : c ≤ 9223372036854775807) (m : Nat) (hm : at_ + m ≤ n) (hm1 : 1 ≤ m) :
    Calls Try.prog 24 #[.pointer (some ⟨rb, 0, none⟩), .int .i64 (m : Int)] w fun e w' => (∃ g c', e = .returned (.tuple #[.slice (some ⟨g, 0, none⟩) m c', .int .i64 0]) ∧ OwnB w' w.heap.size (some ⟨g, 0, none⟩) m c' ((l.drop at_).take m)) ∧ Rdr w' rb A n c (at_ + m) l ∧ w.grownBy w' (some rb) := by
  obtain ⟨i0, hi, hz0, hz1, hz2⟩ := info_parts info5
  have H := Lib.hid h
  clear h
  go_enter Try.func24, Try.ntmps24
  go_wp2_with fail
  refine (next_any _ rb n c at_ A l H.out hn hc m hm hm1).mono ?_
  rintro e w1 ⟨⟨b1, o1, c1, rfl, hR⟩, k, rfl⟩
  have hl : ((l.drop at_).take m).length = m := by rw [List.length_take, List.length_drop, H.out.len]; omega
  have HL := Lib.hid hl
  have d1 := (H.out.drewN k).c1
  have df := (H.out.drewN k).f1
  have HM : Hid (Rdr ((w.drewN k).setCell ⟨rb, 1, none⟩ (.int .i64 ((at_ + m : Nat) : Int))) rb A n c (at_ + m) l) := Lib.hid ((H.out.drewN k).moved (at_ + m))
  have HG : Hid (w.grownBy ((w.drewN k).setCell ⟨rb, 1, none⟩ (.int .i64 ((at_ + m : Nat) : Int))) (some rb)) := Lib.hid (by
    have hg := grown_setCell (w.drewN k) ⟨rb, 1, none⟩ (.int .i64 ((at_ + m : Nat) : Int))
    exact ⟨hg.os, hg.tape, hg.output, hg.size, hg.block⟩)
  have HR : Hid (RdB ((w.drewN k).setCell ⟨rb, 1, none⟩ (.int .i64 ((at_ + m : Nat) : Int))) rb (some ⟨b1, o1, none⟩) ((l.drop at_).take m)) := Lib.hid ((hR.drewN k).keep fun p hp => World.cell?_setCell_other _ _ _ _ (by intro hh; rw [← hh] at hp; exact absurd hp (Nat.lt_irrefl _)))
  rw [Int.natCast_add] at HM HG HR
  have hsz : (((w.drewN k).setCell ⟨rb, 1, none⟩ (.int .i64 ((at_ : Int) + (m : Int)))).heap.size) = w.heap.size := by simp [World.drewN]
  have HSZ := Lib.hid hsz
  clear hR hl hsz
  go_upto_region 5 with (fail)
  generalize (w.drewN k).setCell ⟨rb, 1, none⟩ (.int .i64 ((at_ : Int) + (m : Int))) = w2 at *
  have hlit : OwnB (w2.alloc (.cells #[] 5)) w.heap.size (some ⟨w2.heap.size, 0, none⟩) 0 0 [] := ⟨rfl, World.ownsRow_lit (base := w.heap.size) (e := 5) (size := 1) w2 #[] 0 (by rw [HSZ.out]; exact Nat.le_refl _) (by decide) rfl⟩
  have HLI := Lib.hid hlit
  have hrb := H.out.lt
  have hm2 : m ≤ 1048576 := by omega
  have hws : w.heap.size ≤ (w2.alloc (.cells #[] 5)).heap.size := by simp [HSZ.out]
  have HWS := Lib.hid hws
  clear hlit hws d1 df
  go_wp2_with (at_builtin; refine wpList_append_own _ rfl _ _ 25 rfl w.heap.size 5 i0 _ 1 1 Try.underlying25 hi hz0 hz1 hz2 rfl (by decide) _ 0 _ rfl HLI.out.2 ⟨b1, o1, none⟩ m c1 (bcells ((l.drop at_).take m)) rfl (by rw [bcells, List.length_map, HL.out, Nat.mul_one]) (RdB.cells (HR.out.alloc (by rw [HSZ.out]; exact Nat.le_of_lt hrb) _)) (bcells_one _) (by unfold maxLen; omega) (by omega) HWS.out ?_)
  intro v' w3 hown' hgrow _
  obtain ⟨A3, c3, hv⟩ := ext_of_ownB hown'
  rw [hv] at hown'
  have hO3 : OwnB w3 w.heap.size A3 m c3 ((l.drop at_).take m) := ⟨HL.out, by simpa [bcells] using hown'⟩
  obtain ⟨g3, rfl, _, _, _, _⟩ := hO3.form (by omega)
  have HO3 := Lib.hid hO3
  have hg2 : w2.grownBy w3 none := grown_trans (grown_alloc w2 _) hgrow (fun b h => by simp [Value.ownBlock] at h; right; omega)
  have HM3 : Hid (Rdr w3 rb A n c (at_ + m) l) := Lib.hid (HM.out.grown ⟨hg2.os, hg2.tape, hg2.output, hg2.size, fun k hk => hg2.block k hk (by simp)⟩)
  have HG3 : Hid (w.grownBy w3 (some rb)) := Lib.hid (grown_trans HG.out hg2 (fun b h => by cases h))
  rw [hv]
  clear hown' hgrow hv hO3 hg2
  go_wp2_with fail
  go_ret2
  exact ⟨⟨g3, c3, rfl, HO3.out⟩, HM3.out, HG3.out⟩
end Go.Proofs.Ytkjfbgjbifdbjaa
