/-
  EB: texts of one kind, one behind the other.
-/
import Derived.Test.YtblibmalommdkaaGreatEA
import Derived.Laws.BytesString
import Derived.Laws.IdiomStrings
import Derived.StillTailTactics
/-
  The reader of bytes: On, next, Take, Int, Zeros, Left, where there are enough bytes.
-/
namespace Go.Proofs.YtblibmalommdkaaGreat.Re
open Go.RowKit
/-- A reader at block rb: its bytes, the place. -/
structure Rdr (w : World) (rb : Nat) (A : Option Addr) (n c at_ : Nat) (l : List Int) : Prop where
  c0 : w.cell? ⟨rb, 0, none⟩ = some (.slice A n c)
  c1 : w.cell? ⟨rb, 1, none⟩ = some (.int .i64 (at_ : Int))
  f1 : w.frozen? ⟨rb, 1, none⟩ = false
  rd : RdB w rb A l
  len : l.length = n
  cap : n ≤ c
  lt : rb < w.heap.size
theorem Rdr.grown {w w' : World} {rb n c at_ : Nat} {A : Option Addr} {l : List Int} (h : Rdr w rb A n c at_ l) (hb : Below w.heap.size w w') : Rdr w' rb A n c at_ l :=
  ⟨(hb.cell (p := ⟨rb, 0, none⟩) h.lt).trans h.c0, (hb.cell (p := ⟨rb, 1, none⟩) h.lt).trans h.c1, (hb.frozen (p := ⟨rb, 1, none⟩) h.lt).trans h.f1, h.rd.below hb (Nat.le_of_lt h.lt), h.len, h.cap, Nat.lt_of_lt_of_le h.lt hb.size⟩
theorem Rdr.moved {w : World} {rb n c at_ : Nat} {A : Option Addr} {l : List Int} (h : Rdr w rb A n c at_ l) (k : Nat) : Rdr (w.setCell ⟨rb, 1, none⟩ (.int .i64 (k : Int))) rb A n c k l :=
  ⟨(World.cell?_setCell_other _ _ _ _ (by intro hh; injection hh with _ h2 _; omega)).trans h.c0, World.cell?_setCell_same _ _ _ h.c1, by rw [World.frozen?_setCell]; exact h.f1,
    h.rd.keep fun p hp => World.cell?_setCell_other _ _ _ _ (by intro hh; rw [← hh] at hp; exact absurd hp (Nat.lt_irrefl _)), h.len, h.cap, by simpa using h.lt⟩
theorem Rdr.drewN {w : World} {rb n c at_ : Nat} {A : Option Addr} {l : List Int} (h : Rdr w rb A n c at_ l) (k : Nat) : Rdr (w.drewN k) rb A n c at_ l := ⟨h.c0, h.c1, h.f1, h.rd, h.len, h.cap, h.lt⟩
theorem grown_setCell (w : World) (a : Addr) (v : Value) : w.grownBy (w.setCell a v) (some a.block) := by
  have hb := (Below.refl 0 w).setCell (p := a) (Nat.zero_le _) v
  exact ⟨hb.os, hb.tape, hb.output, hb.size, fun k _ hne => Below.heap_setCell w a v k (fun e => hne (by rw [e]))⟩
theorem drewN_drewN (w : World) (a b : Nat) : (w.drewN a).drewN b = w.drewN (a + b) := by simp [World.drewN, Nat.add_assoc]
set_option maxRecDepth 100000 in
theorem Left_any (w : World) (rb n c at_ : Nat) (A : Option Addr) (l : List Int) (h : Rdr w rb A n c at_ l) (hn : n ≤ 1073741824) (hat : at_ ≤ n) :
    Calls Tryz.prog 26 #[.pointer (some ⟨rb, 0, none⟩)] w fun e w' => e = .returned (.int .i64 ((n : Int) - at_)) ∧ ∃ k, w' = w.drewN k := by
  have c0 := h.c0
  have c1 := h.c1
  clear h
  go_enter Tryz.func26, Tryz.ntmps26
  go_wp2_with fail
  go_quiet (fail)
  go_wp2_with fail
  go_ret
  exact ⟨rfl, _, rfl⟩
set_option maxRecDepth 100000 in
/-- The next bytes: the address is what lies at the place, or whatever, where none are asked. -/
theorem next_any (w : World) (rb n c at_ : Nat) (A : Option Addr) (l : List Int) (h : Rdr w rb A n c at_ l) (hn : n ≤ 1073741824) (hc : c ≤ 9223372036854775807) (m : Nat) (hm : at_ + m ≤ n) (hm1 : 1 ≤ m) :
    Calls Tryz.prog 41 #[.pointer (some ⟨rb, 0, none⟩), .int .i64 (m : Int)] w fun e w' => (∃ b o c', e = .returned (.tuple #[.slice (some ⟨b, o, none⟩) m c', .int .i64 0]) ∧ RdB w rb (some ⟨b, o, none⟩) ((l.drop at_).take m)) ∧ ∃ k, w' = w.drewN k := by
  obtain ⟨s, hs⟩ := get_some l 0 (by rw [h.len]; omega)
  obtain ⟨b, off, rfl, hbl, hx⟩ := h.rd 0 s hs
  clear hx hs
  have HP := Lib.hid (h.rd.piece at_ m)
  have c0 := h.c0
  have c1 := h.c1
  have hcap := h.cap
  clear h
  go_enter Tryz.func41, Tryz.ntmps41
  go_wp2_with fail
  go_quiet (fail)
  go_wp2_with fail
  go_quiet (fail)
  go_wp2_with fail
  rw [Nat.add_sub_cancel_left]
  go_ret2
  exact ⟨⟨_, _, _, rfl, HP.out⟩, _, drewN_drewN _ _ _⟩
set_option maxRecDepth 100000 in
theorem RInt_any (w : World) (rb n c at_ : Nat) (A : Option Addr) (l : List Int) (h : Rdr w rb A n c at_ l) (hy : Bytes l) (hn : n ≤ 1073741824) (hc : c ≤ 9223372036854775807) (m : Nat) (hm : at_ + m ≤ n) (hm1 : 1 ≤ m) (hm4 : m ≤ 6) :
    Calls Tryz.prog 39 #[.pointer (some ⟨rb, 0, none⟩), .int .i64 (m : Int)] w fun e w' => e = .returned (.tuple #[.int .i64 (leVal ((l.drop at_).take m)), .int .i64 0]) ∧ Rdr w' rb A n c (at_ + m) l ∧ w.grownBy w' (some rb) := by
  have H := Lib.hid h
  have HY := Lib.hid hy
  clear h hy
  go_enter Tryz.func39, Tryz.ntmps39
  go_wp2_with fail
  refine (next_any _ rb n c at_ A l H.out hn hc m hm hm1).mono ?_
  rintro e w1 ⟨⟨b1, o1, c1, rfl, hR⟩, k, rfl⟩
  have HR := Lib.hid hR
  clear hR
  have hl : ((l.drop at_).take m).length = m := by rw [List.length_take, List.length_drop, H.out.len]; omega
  have HL := Lib.hid hl
  clear hl
  go_wp2_with fail
  refine (Int_any _ m c1 _ _ HL.out ((HR.out.drewN k).more (Nat.le_of_lt H.out.lt)) (bytes_take (bytes_drop HY.out _) _) hm1 hm4).mono ?_
  rintro e w2 ⟨rfl, rfl⟩
  have d1 := (H.out.drewN k).c1
  have df := (H.out.drewN k).f1
  have HM : Hid (Rdr ((w.drewN k).setCell ⟨rb, 1, none⟩ (.int .i64 ((at_ + m : Nat) : Int))) rb A n c (at_ + m) l) := Lib.hid ((H.out.drewN k).moved (at_ + m))
  have HG : Hid (w.grownBy ((w.drewN k).setCell ⟨rb, 1, none⟩ (.int .i64 ((at_ + m : Nat) : Int))) (some rb)) := Lib.hid (by
    have hg := grown_setCell (w.drewN k) ⟨rb, 1, none⟩ (.int .i64 ((at_ + m : Nat) : Int))
    exact ⟨hg.os, hg.tape, hg.output, hg.size, hg.block⟩)
  rw [Int.natCast_add] at HM HG
  go_wp2_with fail
  go_ret2
  exact ⟨rfl, HM.out, HG.out⟩
set_option maxRecDepth 100000 in
theorem Take_any (w : World) (rb n c at_ : Nat) (A : Option Addr) (l : List Int) (h : Rdr w rb A n c at_ l) (hn : n ≤ 1073741824) (hc : c ≤ 9223372036854775807) (m : Nat) (hm : at_ + m ≤ n) (hm1 : 1 ≤ m) :
    Calls Tryz.prog 23 #[.pointer (some ⟨rb, 0, none⟩), .int .i64 (m : Int)] w fun e w' => (∃ g c', e = .returned (.tuple #[.slice (some ⟨g, 0, none⟩) m c', .int .i64 0]) ∧ OwnB w' w.heap.size (some ⟨g, 0, none⟩) m c' ((l.drop at_).take m)) ∧ Rdr w' rb A n c (at_ + m) l ∧ w.grownBy w' (some rb) := by
  obtain ⟨i0, hi, hz0, hz1, hz2⟩ := info_parts info5
  have H := Lib.hid h
  clear h
  go_enter Tryz.func23, Tryz.ntmps23
  go_wp2_with fail
  refine (next_any _ rb n c at_ A l H.out hn hc m hm hm1).mono ?_
  rintro e w1 ⟨⟨b1, o1, c1, rfl, hR⟩, k, rfl⟩
  have hl : ((l.drop at_).take m).length = m := by rw [List.length_take, List.length_drop, H.out.len]; omega
  have HL := Lib.hid hl
  have d1 := (H.out.drewN k).c1
  have df := (H.out.drewN k).f1
  have HM : Hid (Rdr ((w.drewN k).setCell ⟨rb, 1, none⟩ (.int .i64 ((at_ + m : Nat) : Int))) rb A n c (at_ + m) l) := Lib.hid ((H.out.drewN k).moved (at_ + m))
  have HG : Hid (w.grownBy ((w.drewN k).setCell ⟨rb, 1, none⟩ (.int .i64 ((at_ + m : Nat) : Int))) (some rb)) := Lib.hid (by
    have hg := grown_setCell (w.drewN k) ⟨rb, 1, none⟩ (.int .i64 ((at_ + m : Nat) : Int))
    exact ⟨hg.os, hg.tape, hg.output, hg.size, hg.block⟩)
  have HR : Hid (RdB ((w.drewN k).setCell ⟨rb, 1, none⟩ (.int .i64 ((at_ + m : Nat) : Int))) rb (some ⟨b1, o1, none⟩) ((l.drop at_).take m)) := Lib.hid ((hR.drewN k).keep fun p hp => World.cell?_setCell_other _ _ _ _ (by intro hh; rw [← hh] at hp; exact absurd hp (Nat.lt_irrefl _)))
  rw [Int.natCast_add] at HM HG HR
  have hsz : (((w.drewN k).setCell ⟨rb, 1, none⟩ (.int .i64 ((at_ : Int) + (m : Int)))).heap.size) = w.heap.size := by simp [World.drewN]
  have HSZ := Lib.hid hsz
  clear hR hl hsz
  go_upto_region 5 with (fail)
  generalize (w.drewN k).setCell ⟨rb, 1, none⟩ (.int .i64 ((at_ : Int) + (m : Int))) = w2 at *
  have hlit : OwnB (w2.alloc (.cells #[] 5)) w.heap.size (some ⟨w2.heap.size, 0, none⟩) 0 0 [] := ⟨rfl, World.ownsRow_lit (base := w.heap.size) (e := 5) (size := 1) w2 #[] 0 (by rw [HSZ.out]; exact Nat.le_refl _) (by decide) rfl⟩
  have HLI := Lib.hid hlit
  have hrb := H.out.lt
  have hm2 : m ≤ 1073741824 := by omega
  have hws : w.heap.size ≤ (w2.alloc (.cells #[] 5)).heap.size := by simp [HSZ.out]
  have HWS := Lib.hid hws
  clear hlit hws d1 df
  go_wp2_with (at_builtin; refine wpList_append_own _ rfl _ _ 22 rfl w.heap.size 5 i0 _ 1 1 Tryz.underlying22 hi hz0 hz1 hz2 rfl (by decide) _ 0 _ rfl HLI.out.2 ⟨b1, o1, none⟩ m c1 (bcells ((l.drop at_).take m)) rfl (by rw [bcells, List.length_map, HL.out, Nat.mul_one]) (RdB.cells (HR.out.alloc (by rw [HSZ.out]; exact Nat.le_of_lt hrb) _)) (bcells_one _) (by unfold maxLen; omega) (by omega) HWS.out ?_)
  intro v' w3 hown' hgrow _
  obtain ⟨A3, c3, hv⟩ := ext_of_ownB hown'
  rw [hv] at hown'
  have hO3 : OwnB w3 w.heap.size A3 m c3 ((l.drop at_).take m) := ⟨HL.out, by simpa [bcells] using hown'⟩
  obtain ⟨g3, rfl, _, _, _, _⟩ := hO3.form (by omega)
  have HO3 := Lib.hid hO3
  have hg2 : w2.grownBy w3 none := grown_trans (grown_alloc w2 _) hgrow (fun b h => by simp [Value.ownBlock] at h; right; omega)
  have HM3 : Hid (Rdr w3 rb A n c (at_ + m) l) := Lib.hid (HM.out.grown ⟨hg2.os, hg2.tape, hg2.output, hg2.size, fun k hk => hg2.block k hk (by simp)⟩)
  have HG3 : Hid (w.grownBy w3 (some rb)) := Lib.hid (grown_trans HG.out hg2 (fun b h => by cases h))
  rw [hv]
  clear hown' hgrow hv hO3 hg2
  go_wp2_with fail
  go_ret2
  exact ⟨⟨g3, c3, rfl, HO3.out⟩, HM3.out, HG3.out⟩
end Go.Proofs.YtblibmalommdkaaGreat.Re

/-
  The reader of bytes: On and Zeros.
-/
namespace Go.Proofs.YtblibmalommdkaaGreat.Re
open Go.RowKit
set_option maxRecDepth 100000 in
theorem On_any (w : World) (b off n c : Nat) (l : List Int) (hl : l.length = n) (hr : RdB w w.heap.size (some ⟨b, off, none⟩) l) (h1 : 1 ≤ n) (hn : n ≤ 1073741824) :
    Calls Tryz.prog 21 #[.slice (some ⟨b, off, none⟩) n c] w fun e w' => (∃ rb A' c', e = .returned (.pointer (some ⟨rb, 0, none⟩)) ∧ Rdr w' rb A' n c' 0 l ∧ c' ≤ 9223372036854775807 ∧ w.heap.size ≤ rb) ∧ Below w.heap.size w w' := by
  obtain ⟨i0, hi, hz0, hz1, hz2⟩ := info_parts info5
  have H := Lib.hid hl
  have HR := Lib.hid hr
  have hlit : OwnB (w.alloc (.cells #[] 5)) w.heap.size (some ⟨w.heap.size, 0, none⟩) 0 0 [] := ⟨rfl, World.ownsRow_lit (base := w.heap.size) (e := 5) (size := 1) w #[] 0 (Nat.le_refl _) (by decide) rfl⟩
  have HLI := Lib.hid hlit
  clear hl hr hlit
  go_enter Tryz.func21, Tryz.ntmps21
  go_wp2_with (at_builtin; refine wpList_append_own _ rfl _ _ 22 rfl w.heap.size 5 i0 _ 1 1 Tryz.underlying22 hi hz0 hz1 hz2 rfl (by decide) _ 0 _ rfl HLI.out.2 ⟨b, off, none⟩ n c (bcells l) rfl (by rw [bcells, List.length_map, H.out, Nat.mul_one]) (RdB.cells (HR.out.alloc (Nat.le_refl _) _)) (bcells_one _) (by unfold maxLen; omega) (by omega) (by simp) ?_)
  intro v' w3 hown' hgrow _
  obtain ⟨A3, c3, hv⟩ := ext_of_ownB hown'
  rw [hv] at hown'
  have hO3 : OwnB w3 w.heap.size A3 n c3 l := ⟨H.out, by simpa [bcells] using hown'⟩
  obtain ⟨g3, rfl, _, hlt3, hcc, hcm⟩ := hO3.form (by omega)
  have HO3 := Lib.hid hO3
  have hg2 : w.grownBy w3 none := grown_trans (grown_alloc w _) hgrow (fun b h => by simp [Value.ownBlock] at h; right; omega)
  have hb3 : Below w.heap.size w w3 := ⟨hg2.os, hg2.tape, hg2.output, hg2.size, fun k hk => hg2.block k hk (by simp)⟩
  have HB3 := Lib.hid hb3
  have hsz := hb3.size
  have HX : Hid (∀ (cs : Array Value) (e : TypeId), cs[0]? = some (.slice (some ⟨g3, 0, none⟩) n c3) → cs[1]? = some (.int .i64 ((0 : Nat) : Int)) → Rdr (w3.alloc (.cells cs e)) w3.heap.size (some ⟨g3, 0, none⟩) n c3 0 l) := Lib.hid (fun cs e h0 h1 => by
    refine ⟨(cell_new _ _ _ _).trans h0, (cell_new _ _ _ _).trans h1, ?_, ?_, H.out, hcc, by simp⟩
    · have hh := heap_alloc_new w3 (.cells cs e)
      unfold World.frozen?
      rw [hh]; simp
    · exact HO3.out.rd.alloc (Nat.le_refl _) _)
  unfold maxLen at hcm
  rw [hv]
  clear hown' hgrow hv hO3 hg2 hb3
  go_wp2_with fail
  go_ret
  exact ⟨⟨w3.heap.size, _, c3, rfl, HX.out _ _ rfl rfl, by omega, hsz⟩, HB3.out.alloc hsz _⟩
set_option maxRecDepth 100000 in
theorem Zeros_any (w : World) (rb n c at_ : Nat) (A : Option Addr) (l : List Int) (h : Rdr w rb A n c at_ l) (hn : n ≤ 1073741824) (hc : c ≤ 9223372036854775807) (m : Nat) (hm : at_ + m ≤ n) (hm1 : 1 ≤ m) (z : Int) (hz : (z = 0 ∧ ∀ x ∈ (l.drop at_).take m, x = 0) ∨ (z = 4 ∧ ∃ x ∈ (l.drop at_).take m, x ≠ 0)) :
    Calls Tryz.prog 40 #[.pointer (some ⟨rb, 0, none⟩), .int .i64 (m : Int)] w fun e w' => e = .returned (.int .i64 z) ∧ w.grownBy w' (some rb) := by
  have H := Lib.hid h
  have HZ := Lib.hid hz
  clear h hz
  go_enter Tryz.func40, Tryz.ntmps40
  go_wp2_with fail
  refine (next_any _ rb n c at_ A l H.out hn hc m hm hm1).mono ?_
  rintro e w1 ⟨⟨b1, o1, c1, rfl, hR⟩, k, rfl⟩
  have hl : ((l.drop at_).take m).length = m := by rw [List.length_take, List.length_drop, H.out.len]; omega
  have HL := Lib.hid hl
  have HR := Lib.hid (hR.drewN k)
  have hD : w.grownBy (w.drewN k) none := ⟨rfl, rfl, rfl, Nat.le_refl _, fun _ _ _ => rfl⟩
  have HD := Lib.hid hD
  have HM : Hid (w.grownBy ((w.drewN k).setCell ⟨rb, 1, none⟩ (.int .i64 ((at_ : Int) + (m : Int)))) (some rb)) := Lib.hid (by
    have hg := grown_setCell (w.drewN k) ⟨rb, 1, none⟩ (.int .i64 ((at_ : Int) + (m : Int)))
    exact ⟨hg.os, hg.tape, hg.output, hg.size, hg.block⟩)
  have d1 := (H.out.drewN k).c1
  have df := (H.out.drewN k).f1
  generalize (l.drop at_).take m = t at *
  clear hl hR hD
  go_wp2_with fail
  go_loopw [20] (fun i wr => ∃ q : Nat, q ≤ m ∧ i = .int .i64 q ∧ w.drewN k = wr ∧ ∀ i : Nat, i < q → t[i]? = some 0) (fun i _ => m - (intOf i).toNat)
  case atStart => exact ⟨0, by omega, rfl, rfl, fun i hi => by omega⟩
  case round =>
    obtain ⟨q, hq, rfl, rfl, hz⟩ := hrel
    have HQ := Lib.hid hz
    clear hz
    by_cases hlt : q < m
    · obtain ⟨s, hs⟩ := get_some t q (by rw [HL.out]; exact hlt)
      obtain ⟨b, off, hbo, hblt, hc0⟩ := HR.out q s hs
      cases hbo
      have HS := Lib.hid hs
      clear hs
      by_cases h0 : s = 0
      · subst h0
        go_wp2_with fail
        go_roundw
        case rel => exact ⟨q+1, by omega, by go_num, trivial, fun i hi => by
          by_cases he : i = q
          · rw [he]; exact HS.out
          · exact HQ.out i (by omega)⟩
        case measure => simp [intOf]; omega
      · have hz4 : z = 4 := by
          rcases HZ.out with ⟨_, hall⟩ | ⟨e, _⟩
          · exact absurd (hall s (List.mem_of_getElem? HS.out)) h0
          · exact e
        subst hz4
        go_wp2_with fail
        go_ret
        exact ⟨rfl, ⟨HD.out.os, HD.out.tape, HD.out.output, HD.out.size, fun _ _ _ => rfl⟩⟩
    · obtain rfl : m = q := by omega
      have hz0 : z = 0 := by
        rcases HZ.out with ⟨e, _⟩ | ⟨_, x, hx, hne⟩
        · exact e
        · obtain ⟨i, hi⟩ := List.getElem?_of_mem hx
          have hlt' := (List.getElem?_eq_some_iff.1 hi).1
          rw [HL.out] at hlt'
          rw [HQ.out i hlt'] at hi
          injection hi with hi
          exact absurd hi.symm hne
      subst hz0
      clear hlt
      go_wp2_with fail
      go_ret
      exact ⟨rfl, HM.out⟩
end Go.Proofs.YtblibmalommdkaaGreat.Re

/-
  What OpenHead answers.
-/
namespace Go.Proofs.YtblibmalommdkaaGreat.Re
open Go.RowKit
def toU8 (q : List Int) : List UInt8 := q.map fun x => UInt8.ofNat x.toNat
theorem toU8_back (q : List Int) (h : Bytes q) : (toU8 q).map (fun b => (b.toNat : Int)) = q := by
  induction q with
  | nil => rfl
  | cons x q ih =>
    obtain ⟨h0, h1⟩ := h x (by simp)
    have e : ((UInt8.ofNat x.toNat).toNat : Int) = x := by
      rw [UInt8.toNat_ofNat']; omega
    have := ih (fun b hb => h b (by simp [hb]))
    simp only [toU8, List.map_cons, List.map_map] at this ⊢
    rw [this, e]
theorem str_of (w : World) (a : Addr) (n c : Nat) (q : List Int) (hl : q.length = n) (hy : Bytes q) (hr : ∀ j u, (bcells q)[j]? = some u → w.cell? (a.add j) = some u) :
    ∃ S : ByteArray, (convert 22 9 (.slice (some a) n c)).run Tryz.prog w = .ok (.string S) w ∧ (S.toList = [111, 99, 116, 97, 118, 111, 45, 106] ↔ q = lettersL) := by
  have hlu : (toU8 q).length = n := by simp [toU8, hl]
  have hrun := run_convert_bytes_back (P := Tryz.prog) w 22 9 5 a c (toU8 q) Tryz.underlying22 Tryz.underlying5 Tryz.underlying9 (fun j hj => by
    refine hr j _ ?_
    rw [bcells_get]
    have e : q[j]? = some (((toU8 q)[j]).toNat : Int) := by
      have h2 : ((toU8 q).map (fun b => (b.toNat : Int)))[j]? = some (((toU8 q)[j]).toNat : Int) := by
        rw [List.getElem?_map, List.getElem?_eq_getElem hj]; rfl
      rw [toU8_back q hy] at h2
      exact h2
    rw [e]; rfl)
  rw [hlu] at hrun
  refine ⟨_, hrun, ?_⟩
  rw [ByteArray.toList_mk]
  constructor
  · intro h2
    have h3 := toU8_back q hy
    rw [h2] at h3
    rw [← h3]; rfl
  · intro h
    subst h
    rfl
def wv (q : List Int) : Int := leVal ((q.drop 8).take 4)
def rv_ (q : List Int) : Int := leVal ((q.drop 12).take 1)
def bv (q : List Int) : Int := leVal ((q.drop 13).take 4)
def sv (q : List Int) : Int := leVal ((q.drop 17).take 4)
def zs (q : List Int) : Bool := ((q.drop 21).take 39).all fun x => decide (x = 0)
def formB (q : List Int) : Bool := decide ((q.drop 0).take 8 = lettersL) && (decide (rv_ q ≤ 1) && (decide (wv q ≤ 2147483647) && (decide (bv q ≤ 2147483647) && zs q)))
def hdOf (q : List Int) : Hd := ⟨wv q, decide (rv_ q = 1), bv q, sv q⟩
def openP (l : List Int) : Hd × Int :=
  if l.length ≠ 64 then (hd0, 3) else if leVal (l.drop 60) ≠ (crcOf (l.take 60) : Int) then (hd0, 5) else if formB (l.take 60) = true then (hdOf (l.take 60), 0) else (hd0, 4)
theorem four_bd {q : List Int} (h : Bytes q) (k : Nat) : 0 ≤ leVal ((q.drop k).take 4) ∧ leVal ((q.drop k).take 4) < 4294967296 := leVal_lt4 _ (bytes_take (bytes_drop h k) 4) (by rw [List.length_take]; omega)
theorem one_bd {q : List Int} (h : Bytes q) : 0 ≤ rv_ q ∧ rv_ q < 4294967296 := leVal_lt4 _ (bytes_take (bytes_drop h 12) 1) (by rw [List.length_take]; omega)
set_option maxRecDepth 100000 in
set_option maxHeartbeats 2000000 in
theorem OpenHead_short (A : Option Addr) (n c : Nat) (w : World) (l : List Int) (hl : l.length = n) (hn : n ≠ 64) (_hm : n ≤ 9223372036854775807) :
    Calls Tryz.prog 17 #[.slice A n c] w fun e w' => e = .returned (.tuple #[(openP l).1.val, .int .i64 (openP l).2]) ∧ Below w.heap.size w w' := by
  have E : openP l = (hd0, 3) := by unfold openP; rw [if_pos (by omega)]
  have HE := Lib.hid E
  clear E
  have h64 : ((n : Int) != 64) = true := by simp; omega
  have h64' : ((n : Int) == 64) = false := by simp; omega
  go_enter Tryz.func17, Tryz.ntmps17
  go_wp2_with fail
  rw [HE.out]
  refine bodyPost_ret (v := .tuple #[.agg #[.int .i64 0, .bool false, .int .i64 0, .int .u32 0], .int .i64 3]) (by simp [results, Tryz.results17, go_sem]) rfl ⟨rfl, ?_⟩
  exact (Below.refl _ _).alloc (Nat.le_refl _) _
set_option maxRecDepth 20000 in
set_option maxHeartbeats 4000000 in
theorem OpenHead_any (b off c : Nat) (w : World) (l : List Int) (hl : l.length = 64) (hr : RdB w w.heap.size (some ⟨b, off, none⟩) l) (hy : Bytes l) (hc0 : 64 ≤ c) (hc : c ≤ 9223372036854775807) :
    Calls Tryz.prog 17 #[.slice (some ⟨b, off, none⟩) 64 c] w fun e w' => e = .returned (.tuple #[(openP l).1.val, .int .i64 (openP l).2]) ∧ Below w.heap.size w w' := by
  have hq : (l.take 60).length = 60 := by rw [List.length_take, hl]; rfl
  have hyq := bytes_take hy 60
  have hrq : RdB w w.heap.size (some ⟨b, off, none⟩) (l.take 60) := by simpa using hr.piece 0 60
  have hrs : RdB w w.heap.size (some ⟨b, off + 60, none⟩) (l.drop 60) := by
    have := hr.piece 60 4
    rwa [List.take_of_length_le (by rw [List.length_drop, hl]; omega)] at this
  have HQ := Lib.hid hq; have HYQ := Lib.hid hyq; have HRQ := Lib.hid hrq; have HRS := Lib.hid hrs
  have HYS := Lib.hid (bytes_drop hy 60)
  have HLS : Hid ((l.drop 60).length = 4) := Lib.hid (by rw [List.length_drop, hl])
  have hcr := crcOf_lt hyq
  have hE : openP l = if leVal (l.drop 60) ≠ (crcOf (l.take 60) : Int) then (hd0, 5) else if formB (l.take 60) = true then (hdOf (l.take 60), 0) else (hd0, 4) := by
    unfold openP; rw [if_neg (by omega)]
  have HE := Lib.hid hE
  clear hq hyq hrq hrs hl hr hy hE
  have hwr : IntKind.i64.wrap (crcOf (l.take 60) : Int) = crcOf (l.take 60) := by rw [IntKind.wrap_i64]; omega
  go_enter Tryz.func17, Tryz.ntmps17
  go_wp2_with fail
  generalize hz : w.alloc (.cells #[.int .i64 0, .bool false, .int .i64 0, .int .u32 0] 50) = wz at *
  have HBz : Hid (Below w.heap.size w wz) := Lib.hid (by rw [← hz]; exact (Below.refl _ _).alloc (Nat.le_refl _) _)
  have HSz : Hid (wz.heap.size = w.heap.size + 1) := Lib.hid (by rw [← hz]; simp)
  have hcz : ∀ j : Nat, wz.cell? ⟨w.heap.size, j, none⟩ = (#[.int .i64 0, .bool false, .int .i64 0, .int .u32 0] : Array Value)[j]? := fun j => by rw [← hz, cell_new]
  have hfz : ∀ j : Nat, wz.frozen? ⟨w.heap.size, j, none⟩ = false := fun j => by
    have hh := heap_alloc_new w (.cells #[.int .i64 0, .bool false, .int .i64 0, .int .u32 0] 50)
    rw [hz] at hh
    unfold World.frozen?
    rw [hh]; simp
  have HCz := Lib.hid hcz; have HFz := Lib.hid hfz
  clear hz hcz hfz
  have HX := Lib.hid (leVal_lt4 (l.drop 60) HYS.out (by rw [HLS.out]; exact Nat.le_refl _))
  refine (Int_any _ 4 (c - 60) wz _ HLS.out (HRS.out.up HBz.out) HYS.out (by omega) (by omega)).mono ?_
  rintro e w1 ⟨rfl, rfl⟩
  generalize leVal (l.drop 60) = x at *
  have HCC : Hid (∀ o : Obj, o = .cells #[.slice (some ⟨b, off, none⟩) 60 c] 22 → (wz.alloc o).cell? ⟨wz.heap.size, 0, none⟩ = some (.slice (some ⟨b, off, none⟩) 60 c)) := Lib.hid (fun o ho => by subst ho; rw [cell_new]; rfl)
  go_wp2_with fail
  refine (crc_any wz.heap.size 1 (some ⟨b, off, none⟩) 60 c _ (l.take 60) HQ.out (((HRQ.out.up HBz.out)).up ((Below.refl _ _).alloc (Nat.le_refl _) _)) HYQ.out (by omega) (HCC.out _ rfl)).mono ?_
  rintro e w2 ⟨rfl, rfl⟩
  generalize hyy : wz.alloc (.cells #[.slice (some ⟨b, off, none⟩) 60 c] 22) = wy at *
  have hbz : Below wz.heap.size wz wy := by rw [← hyy]; exact (Below.refl _ _).alloc (Nat.le_refl _) _
  have hzlt : w.heap.size < wz.heap.size := by rw [HSz.out]; omega
  have HBy : Hid (Below w.heap.size w wy) := Lib.hid (HBz.out.trans (hbz.mono (by omega)))
  have HCy : Hid (∀ j : Nat, wy.cell? ⟨w.heap.size, j, none⟩ = (#[.int .i64 0, .bool false, .int .i64 0, .int .u32 0] : Array Value)[j]?) := Lib.hid (fun j => (hbz.cell (p := ⟨w.heap.size, j, none⟩) hzlt).trans (HCz.out j))
  have HFy : Hid (∀ j : Nat, wy.frozen? ⟨w.heap.size, j, none⟩ = false) := Lib.hid (fun j => (hbz.frozen (p := ⟨w.heap.size, j, none⟩) hzlt).trans (HFz.out j))
  have hylt : w.heap.size < wy.heap.size := Nat.lt_of_lt_of_le hzlt hbz.size
  clear HCz HFz HBz HSz HCC hyy hbz hzlt
  generalize l.take 60 = q at *
  generalize crcOf q = y at *
  by_cases hxy : x = (y : Int)
  · have E : Hid (openP l = if formB q = true then (hdOf q, 0) else (hd0, 4)) := Lib.hid (by rw [HE.out, if_neg (by simpa using hxy)])
    clear HE
    subst hxy
    go_wp2_with fail
    refine (On_any _ b off 60 c q HQ.out (HRQ.out.up HBy.out) (by omega) (by omega)).mono ?_
    rintro e w3 ⟨⟨rb, A3, c3, rfl, hR, hc3, hrb⟩, hb⟩
    have HR3 := Lib.hid hR
    have HB3 := Lib.hid hb
    clear hR hb
    go_wp2_with fail
    refine (Take_any _ rb 60 c3 0 A3 q HR3.out (by omega) hc3 8 (by omega) (by omega)).mono ?_
    rintro e w4 ⟨⟨g, c4, rfl, hO⟩, hR, hg4⟩
    have HO4 := Lib.hid hO
    have HR4 := Lib.hid hR
    have HG4 := Lib.hid hg4
    have hgl : w3.heap.size ≤ g ∧ g < w4.heap.size := hO.base_le
    have hrl : rb < w3.heap.size := HR3.out.lt
    clear hO hR hg4 HR3
    go_wp2_with fail
    refine (RInt_any _ rb 60 c3 8 A3 q HR4.out HYQ.out (by omega) hc3 4 (by omega) (by omega) (by omega)).mono ?_
    rintro e w5 ⟨rfl, hR, hg5⟩
    have HR5 := Lib.hid hR
    have HG5 := Lib.hid hg5
    clear hR hg5 HR4
    go_wp2_with fail
    refine (RInt_any _ rb 60 c3 12 A3 q HR5.out HYQ.out (by omega) hc3 1 (by omega) (by omega) (by omega)).mono ?_
    rintro e w6 ⟨rfl, hR, hg6⟩
    have HR6 := Lib.hid hR
    have HG6 := Lib.hid (grown_trans HG5.out hg6 (fun b h => .inl h))
    clear hR hg6 HR5 HG5
    go_wp2_with fail
    refine (RInt_any _ rb 60 c3 13 A3 q HR6.out HYQ.out (by omega) hc3 4 (by omega) (by omega) (by omega)).mono ?_
    rintro e w7 ⟨rfl, hR, hg7⟩
    have HR7 := Lib.hid hR
    have HG7 := Lib.hid (grown_trans HG6.out hg7 (fun b h => .inl h))
    clear hR hg7 HR6 HG6
    go_wp2_with fail
    refine (RInt_any _ rb 60 c3 17 A3 q HR7.out HYQ.out (by omega) hc3 4 (by omega) (by omega) (by omega)).mono ?_
    rintro e w8 ⟨rfl, hR, hg8⟩
    have HR8 := Lib.hid hR
    have HG8 := Lib.hid (grown_trans HG7.out hg8 (fun b h => .inl h))
    clear hR hg8 HR7 HG7
    go_wp2_with fail
    go_upto_region 12 with (fail)
    have HRg : Hid (RdB w8 w8.heap.size (some ⟨g, 0, none⟩) ((q.drop 0).take 8)) := Lib.hid (by
      have ho : OwnB w8 w3.heap.size (some ⟨g, 0, none⟩) 8 c4 ((q.drop 0).take 8) := ⟨HO4.out.1, HO4.out.2.kept HG8.out (.inr (by simp [Value.ownBlock]; omega))⟩
      exact ho.rd)
    have hrbw : w.heap.size < rb := by omega
    have hg3 : w3.heap.size ≤ w4.heap.size := HG4.out.size
    have hyl3 : wy.heap.size ≤ w3.heap.size := HB3.out.size
    have HK : Hid (∀ j : Nat, w8.cell? ⟨w.heap.size, j, none⟩ = (#[.int .i64 0, .bool false, .int .i64 0, .int .u32 0] : Array Value)[j]? ∧ w8.frozen? ⟨w.heap.size, j, none⟩ = false) := Lib.hid (fun j => by
      have b3 := HB3.out.block w.heap.size (by omega)
      have b4 := HG4.out.block w.heap.size (by omega) (by simp; omega)
      have b8 := HG8.out.block w.heap.size (by omega) (by simp; omega)
      have bb : w8.heap[w.heap.size]? = wy.heap[w.heap.size]? := b8.trans (b4.trans b3)
      exact ⟨(World.cell?_of_block (w := wy) (a := ⟨w.heap.size, j, none⟩) bb).trans (HCy.out j), (World.frozen?_of_block (w := wy) (a := ⟨w.heap.size, j, none⟩) bb).trans (HFy.out j)⟩)
    have HB8 : Hid (Below w.heap.size w w8) := Lib.hid (((HBy.out.trans (HB3.out.mono (by omega))).grown HG4.out (by omega) (fun k h => by injection h with h; omega)).grown HG8.out (by omega) (fun k h => by injection h with h; omega))
    have hl8 : ((q.drop 0).take 8).length = 8 := by rw [List.length_take, List.length_drop, HQ.out]; rfl
    obtain ⟨S, hS1, hS2⟩ := str_of w8 ⟨g, 0, none⟩ 8 c4 _ hl8 (bytes_take (bytes_drop HYQ.out 0) 8) (RdB.cells HRg.out)
    have e0 := (HK.out 0).1; have e1 := (HK.out 1).1; have e2 := (HK.out 2).1; have e3 := (HK.out 3).1
    have f0 := (HK.out 0).2; have f1 := (HK.out 1).2; have f2 := (HK.out 2).2; have f3 := (HK.out 3).2
    simp at e0 e1 e2 e3
    have HS := Lib.hid hS2
    obtain ⟨hv10, hv11⟩ := four_bd HYQ.out 8
    obtain ⟨hv20, hv21⟩ := one_bd HYQ.out
    obtain ⟨hv30, hv31⟩ := four_bd HYQ.out 13
    obtain ⟨hv40, hv41⟩ := four_bd HYQ.out 17
    have hform : formB q = (decide ((q.drop 0).take 8 = lettersL) && (decide (leVal ((q.drop 12).take 1) ≤ 1) && (decide (leVal ((q.drop 8).take 4) ≤ 2147483647) && (decide (leVal ((q.drop 13).take 4) ≤ 2147483647) && zs q)))) := rfl
    have hhd : hdOf q = ⟨leVal ((q.drop 8).take 4), decide (leVal ((q.drop 12).take 1) = 1), leVal ((q.drop 13).take 4), leVal ((q.drop 17).take 4)⟩ := rfl
    unfold rv_ at hv20 hv21
    clear hS2 hl8
    generalize leVal ((q.drop 8).take 4) = v1 at *
    generalize leVal ((q.drop 12).take 1) = v2 at *
    generalize leVal ((q.drop 13).take 4) = v3 at *
    generalize leVal ((q.drop 17).take 4) = v4 at *
    have HF := Lib.hid hform
    have HH := Lib.hid hhd
    clear hform hhd
    by_cases hs : S.toList = [111, 99, 116, 97, 118, 111, 45, 106]
    · have hlet := HS.out.1 hs
      have HLT := Lib.hid hlet
      clear hlet HS
      by_cases a2 : 1 < v2
      · have E4 : Hid (openP l = (hd0, 4)) := Lib.hid (by rw [E.out, HF.out, if_neg]; simp; omega)
        go_wp2_with (rw [hS1])
        rw [E4.out]
        refine bodyPost_ret (v := .tuple #[.agg #[.int .i64 0, .bool false, .int .i64 0, .int .u32 0], .int .i64 4]) (by simp [results, Tryz.results17, go_sem, e0, e1, e2, e3]) rfl ⟨rfl, ?_⟩
        exact (((HB8.out.setCell (Nat.le_refl _) _).setCell (Nat.le_refl _) _).setCell (Nat.le_refl _) _).setCell (Nat.le_refl _) _
      · by_cases a1 : 2147483647 < v1
        · have E4 : Hid (openP l = (hd0, 4)) := Lib.hid (by rw [E.out, HF.out, if_neg]; simp; omega)
          go_wp2_with (rw [hS1])
          rw [E4.out]
          refine bodyPost_ret (v := .tuple #[.agg #[.int .i64 0, .bool false, .int .i64 0, .int .u32 0], .int .i64 4]) (by simp [results, Tryz.results17, go_sem, e0, e1, e2, e3]) rfl ⟨rfl, ?_⟩
          exact (((HB8.out.setCell (Nat.le_refl _) _).setCell (Nat.le_refl _) _).setCell (Nat.le_refl _) _).setCell (Nat.le_refl _) _
        · by_cases a3 : 2147483647 < v3
          · have E4 : Hid (openP l = (hd0, 4)) := Lib.hid (by rw [E.out, HF.out, if_neg]; simp; omega)
            go_wp2_with (rw [hS1])
            rw [E4.out]
            refine bodyPost_ret (v := .tuple #[.agg #[.int .i64 0, .bool false, .int .i64 0, .int .u32 0], .int .i64 4]) (by simp [results, Tryz.results17, go_sem, e0, e1, e2, e3]) rfl ⟨rfl, ?_⟩
            exact (((HB8.out.setCell (Nat.le_refl _) _).setCell (Nat.le_refl _) _).setCell (Nat.le_refl _) _).setCell (Nat.le_refl _) _
          · clear e0 e1 e2 e3 f0 f1 f2 f3
            go_wp2_with (rw [hS1])
            refine (Left_any _ rb 60 c3 21 A3 q HR8.out (by omega) (by omega)).mono ?_
            rintro e w9 ⟨rfl, k, rfl⟩
            have HQ9 : Hid (w.heap.size < rb) := Lib.hid hrbw
            have ZC : ∀ w10, (w8.drewN k).grownBy w10 (some rb) → (∀ j : Nat, w10.cell? ⟨w.heap.size, j, none⟩ = w8.cell? ⟨w.heap.size, j, none⟩ ∧ w10.frozen? ⟨w.heap.size, j, none⟩ = w8.frozen? ⟨w.heap.size, j, none⟩) ∧ Below w.heap.size w w10 := fun w10 hg => by
              have b10 : w10.heap[w.heap.size]? = w8.heap[w.heap.size]? := hg.block w.heap.size (by have := HB8.out.size; have := HG8.out.size; show w.heap.size < w8.heap.size; omega) (by simp; omega)
              exact ⟨fun j => ⟨World.cell?_of_block (w := w8) (a := ⟨w.heap.size, j, none⟩) b10, World.frozen?_of_block (w := w8) (a := ⟨w.heap.size, j, none⟩) b10⟩, (belowDrewN HB8.out k).grown hg (by have := HB8.out.size; show w.heap.size ≤ w8.heap.size; omega) (fun k h => by injection h with h; omega)⟩
            have HZC := Lib.hid ZC
            clear ZC
            have hzz : zs q = true ∨ zs q = false := by cases zs q <;> simp
            rcases hzz with hz | hz
            · have E4 : Hid (openP l = (hdOf q, 0)) := Lib.hid (by rw [E.out, HF.out, if_pos]; have h1 := HLT.out; simp at h1; simp [h1, hz]; omega)
              have hz' : ∀ x ∈ (q.drop 21).take 39, x = 0 := by
                unfold zs at hz
                simpa using hz
              have HZ := Lib.hid hz'
              clear hz hz'
              go_wp2_with fail
              refine (Zeros_any _ rb 60 c3 21 A3 q (HR8.out.drewN k) (by omega) hc3 39 (by omega) (by omega) 0 (.inl ⟨rfl, HZ.out⟩)).mono ?_
              rintro e w10 ⟨rfl, hg⟩
              obtain ⟨hcf, hbl⟩ := HZC.out w10 hg
              have HB10 := Lib.hid hbl
              have e0 := (hcf 0).1.trans (HK.out 0).1; have e1 := (hcf 1).1.trans (HK.out 1).1; have e2 := (hcf 2).1.trans (HK.out 2).1; have e3 := (hcf 3).1.trans (HK.out 3).1
              have f0 := (hcf 0).2.trans (HK.out 0).2; have f1 := (hcf 1).2.trans (HK.out 1).2; have f2 := (hcf 2).2.trans (HK.out 2).2; have f3 := (hcf 3).2.trans (HK.out 3).2
              simp at e0 e1 e2 e3
              have hwv : IntKind.u32.wrap v4 = v4 := by rw [IntKind.wrap_u32]; omega
              clear hcf hbl hg HZC
              rcases (show v2 = 0 ∨ v2 = 1 by omega) with h2 | h2
              all_goals
                subst h2
                go_wp2_with fail
                rw [E4.out, HH.out]
                refine bodyPost_ret (v := .tuple #[.agg #[.int .i64 v1, .bool _, .int .i64 v3, .int .u32 v4], .int .i64 0]) (by simp [results, Tryz.results17, go_sem, e0, e1, e2, e3]) rfl ⟨rfl, ?_⟩
                exact (((HB10.out.setCell (Nat.le_refl _) _).setCell (Nat.le_refl _) _).setCell (Nat.le_refl _) _).setCell (Nat.le_refl _) _
            · have E4 : Hid (openP l = (hd0, 4)) := Lib.hid (by rw [E.out, HF.out, if_neg]; simp [hz])
              have hz' : ∃ x ∈ (q.drop 21).take 39, x ≠ 0 := by
                unfold zs at hz
                simpa using hz
              have HZ := Lib.hid hz'
              clear hz hz'
              go_wp2_with fail
              refine (Zeros_any _ rb 60 c3 21 A3 q (HR8.out.drewN k) (by omega) hc3 39 (by omega) (by omega) 4 (.inr ⟨rfl, HZ.out⟩)).mono ?_
              rintro e w10 ⟨rfl, hg⟩
              obtain ⟨hcf, hbl⟩ := HZC.out w10 hg
              have HB10 := Lib.hid hbl
              have e0 := (hcf 0).1.trans (HK.out 0).1; have e1 := (hcf 1).1.trans (HK.out 1).1; have e2 := (hcf 2).1.trans (HK.out 2).1; have e3 := (hcf 3).1.trans (HK.out 3).1
              have f0 := (hcf 0).2.trans (HK.out 0).2; have f1 := (hcf 1).2.trans (HK.out 1).2; have f2 := (hcf 2).2.trans (HK.out 2).2; have f3 := (hcf 3).2.trans (HK.out 3).2
              simp at e0 e1 e2 e3
              clear hcf hbl hg HZC
              go_wp2_with fail
              rw [E4.out]
              refine bodyPost_ret (v := .tuple #[.agg #[.int .i64 0, .bool false, .int .i64 0, .int .u32 0], .int .i64 4]) (by simp [results, Tryz.results17, go_sem, e0, e1, e2, e3]) rfl ⟨rfl, ?_⟩
              exact (((HB10.out.setCell (Nat.le_refl _) _).setCell (Nat.le_refl _) _).setCell (Nat.le_refl _) _).setCell (Nat.le_refl _) _
    · have E4 : Hid (openP l = (hd0, 4)) := Lib.hid (by
        rw [E.out, HF.out, if_neg]
        have : ¬ ((q.drop 0).take 8 = lettersL) := fun h => hs (HS.out.2 h)
        simp only [decide_eq_false this, Bool.false_and]
        simp)
      have hsn : (S.toList == [111, 99, 116, 97, 118, 111, 45, 106]) = false := by simpa using hs
      clear hs
      go_wp2_with (rw [hS1])
      rw [E4.out]
      refine bodyPost_ret (v := .tuple #[.agg #[.int .i64 0, .bool false, .int .i64 0, .int .u32 0], .int .i64 4]) (by simp [results, Tryz.results17, go_sem, e0, e1, e2, e3]) rfl ⟨rfl, ?_⟩
      exact (((HB8.out.setCell (Nat.le_refl _) _).setCell (Nat.le_refl _) _).setCell (Nat.le_refl _) _).setCell (Nat.le_refl _) _
  · have hne : (x != (y : Int)) = true := by simpa using hxy
    have hne' : (x == (y : Int)) = false := by simpa using hxy
    have E : Hid (openP l = (hd0, 5)) := Lib.hid (by rw [HE.out, if_pos hxy])
    clear HE
    have e0 := HCy.out 0; have e1 := HCy.out 1; have e2 := HCy.out 2; have e3 := HCy.out 3
    have f0 := HFy.out 0; have f1 := HFy.out 1; have f2 := HFy.out 2; have f3 := HFy.out 3
    simp at e0 e1 e2 e3
    go_wp2_with fail
    rw [E.out]
    refine bodyPost_ret (v := .tuple #[.agg #[.int .i64 0, .bool false, .int .i64 0, .int .u32 0], .int .i64 5]) (by simp [results, Tryz.results17, go_sem, e0, e1, e2, e3]) rfl ⟨rfl, ?_⟩
    exact (((HBy.out.setCell (Nat.le_refl _) _).setCell (Nat.le_refl _) _).setCell (Nat.le_refl _) _).setCell (Nat.le_refl _) _
end Go.Proofs.YtblibmalommdkaaGreat.Re

/-
  Heads, plain: bytes are opened as the head that packs to them, or none; a bit turned is found.
-/
namespace Go.Proofs.YtblibmalommdkaaGreat.Re
theorem dv_down (k : Nat) (n : Int) : dv k (n / 256) = dv (k+1) n := by
  induction k with
  | zero => rfl
  | succ k ih => show dv k (n / 256) / 256 = dv (k+1) n / 256; rw [ih]
theorem leB_succ (n : Int) (w : Nat) : leB n (w+1) = n % 256 :: leB (n / 256) w := by
  unfold leB
  rw [List.range_succ_eq_map, List.map_cons, List.map_map]
  congr 1
  apply List.map_congr_left
  intro i _
  show dv (i+1) n % 256 = dv i (n / 256) % 256
  rw [dv_down]
theorem leB_leVal (t : List Int) (h : Bytes t) : leB (leVal t) t.length = t := by
  induction t with
  | nil => rfl
  | cons b t ih =>
    obtain ⟨h0, h1⟩ := h b (by simp)
    rw [List.length_cons, leB_succ, leVal_cons]
    have e1 : (b + 256 * leVal t) % 256 = b := by omega
    have e2 : (b + 256 * leVal t) / 256 = leVal t := by omega
    rw [e1, e2, ih (fun c hc => h c (by simp [hc]))]
theorem leVal_leB (w : Nat) (n : Int) (h0 : 0 ≤ n) (h1 : n < 256 ^ w) : leVal (leB n w) = n := by
  induction w generalizing n with
  | zero => simp at h1; have : n = 0 := by omega
            subst this; rfl
  | succ w ih =>
    rw [leB_succ, leVal_cons, ih (n / 256) (by omega) (by rw [Int.pow_succ] at h1; generalize (256 : Int) ^ w = p at *; omega)]
    omega
theorem leVal_leB4 (n : Int) (h0 : 0 ≤ n) (h1 : n < 4294967296) : leVal (leB n 4) = n := leVal_leB 4 n h0 (by simpa using h1)
theorem split60 (q : List Int) (hq : q.length = 60) : q = (q.drop 0).take 8 ++ (q.drop 8).take 4 ++ (q.drop 12).take 1 ++ ((q.drop 13).take 4 ++ (q.drop 17).take 4) ++ (q.drop 21).take 39 := by
  have e : ∀ (a n : Nat), (q.drop a).take n ++ q.drop (a+n) = q.drop a := fun a n => by rw [← List.drop_drop, List.take_append_drop]
  have h21 : (q.drop 21).take 39 = q.drop 21 := List.take_of_length_le (by rw [List.length_drop, hq]; decide)
  rw [h21, List.append_assoc, List.append_assoc, List.append_assoc, List.append_assoc, e 17 4, e 13 4, e 12 1, e 8 4]
  have h8 := e 0 8
  simp
theorem parts_of (a b c d e f : List Int) (ha : a.length = 8) (hb : b.length = 4) (hc : c.length = 1) (hd : d.length = 4) (he : e.length = 4) (hf : f.length = 39) :
    ∀ q, q = a ++ b ++ c ++ (d ++ e) ++ f → (q.drop 0).take 8 = a ∧ (q.drop 8).take 4 = b ∧ (q.drop 12).take 1 = c ∧ (q.drop 13).take 4 = d ∧ (q.drop 17).take 4 = e ∧ (q.drop 21).take 39 = f := by
  intro q hq
  have h1 : q = a ++ (b ++ (c ++ (d ++ (e ++ f)))) := by rw [hq]; simp
  subst h1
  have d8 : (a ++ (b ++ (c ++ (d ++ (e ++ f))))).drop 8 = b ++ (c ++ (d ++ (e ++ f))) := List.drop_left' ha
  have d12 : (a ++ (b ++ (c ++ (d ++ (e ++ f))))).drop 12 = c ++ (d ++ (e ++ f)) := by rw [show (12 : Nat) = 8 + 4 from rfl, ← List.drop_drop, d8]; exact List.drop_left' hb
  have d13 : (a ++ (b ++ (c ++ (d ++ (e ++ f))))).drop 13 = d ++ (e ++ f) := by rw [show (13 : Nat) = 12 + 1 from rfl, ← List.drop_drop, d12]; exact List.drop_left' hc
  have d17 : (a ++ (b ++ (c ++ (d ++ (e ++ f))))).drop 17 = e ++ f := by rw [show (17 : Nat) = 13 + 4 from rfl, ← List.drop_drop, d13]; exact List.drop_left' hd
  have d21 : (a ++ (b ++ (c ++ (d ++ (e ++ f))))).drop 21 = f := by rw [show (21 : Nat) = 17 + 4 from rfl, ← List.drop_drop, d17]; exact List.drop_left' he
  rw [List.drop_zero, d8, d12, d13, d17, d21]
  exact ⟨List.take_left' ha, List.take_left' hb, List.take_left' hc, List.take_left' hd, List.take_left' he, List.take_of_length_le (by omega)⟩
theorem pre_parts (h : Hd) (q : List Int) (hq : q = preL h) : (q.drop 0).take 8 = lettersL ∧ (q.drop 8).take 4 = leB h.wave 4 ∧ (q.drop 12).take 1 = leB (bit h.ready) 1 ∧ (q.drop 13).take 4 = leB h.body 4 ∧ (q.drop 17).take 4 = leB h.sum 4 ∧ (q.drop 21).take 39 = List.replicate 39 0 :=
  parts_of _ _ _ _ _ _ rfl (leB_length _ _) (leB_length _ _) (leB_length _ _) (leB_length _ _) (by simp) q (by rw [hq, preL, headL])
theorem bit_decide (r : Bool) : decide (bit r = 1) = r := by cases r <;> rfl
theorem bit_back (v : Int) (h0 : 0 ≤ v) (h1 : v ≤ 1) : bit (decide (v = 1)) = v := by
  rcases (show v = 0 ∨ v = 1 by omega) with h | h <;> subst h <;> rfl
def sumOk (h : Hd) : Prop := 0 ≤ h.sum ∧ h.sum ≤ 4294967295
/-- What is packed is in form, and is opened as what was packed. -/
theorem pre_form (h : Hd) (ho : okH h) (hs : sumOk h) : formB (preL h) = true ∧ hdOf (preL h) = h := by
  obtain ⟨p0, p1, p2, p3, p4, p5⟩ := pre_parts h _ rfl
  obtain ⟨a0, a1, a2, a3⟩ := ho
  obtain ⟨b0, b1⟩ := hs
  obtain ⟨c0, c1⟩ := bit_bd h.ready
  have w1 : wv (preL h) = h.wave := by unfold wv; rw [p1]; exact leVal_leB4 _ a0 (by omega)
  have w2 : rv_ (preL h) = bit h.ready := by unfold rv_; rw [p2]; exact leVal_leB 1 _ c0 (by omega)
  have w3 : bv (preL h) = h.body := by unfold bv; rw [p3]; exact leVal_leB4 _ a2 (by omega)
  have w4 : sv (preL h) = h.sum := by unfold sv; rw [p4]; exact leVal_leB4 _ b0 (by omega)
  constructor
  · unfold formB zs
    rw [p0, p5, w1, w2, w3]
    simp [a1, a3, c1]
  · unfold hdOf
    rw [w1, w2, w3, w4, bit_decide]
theorem form_pre (q : List Int) (hq : q.length = 60) (hy : Bytes q) (hf : formB q = true) : preL (hdOf q) = q ∧ okH (hdOf q) ∧ sumOk (hdOf q) := by
  unfold formB zs at hf
  simp only [Bool.and_eq_true, decide_eq_true_eq, List.all_eq_true] at hf
  obtain ⟨f0, f1, f2, f3, f4⟩ := hf
  have hl : ∀ a n : Nat, a + n ≤ 60 → ((q.drop a).take n).length = n := fun a n h => by rw [List.length_take, List.length_drop, hq]; omega
  have hb : ∀ a n : Nat, Bytes ((q.drop a).take n) := fun a n => bytes_take (bytes_drop hy a) n
  have hback : ∀ a n : Nat, a + n ≤ 60 → leB (leVal ((q.drop a).take n)) n = (q.drop a).take n := fun a n h => by
    have := leB_leVal _ (hb a n)
    rwa [hl a n h] at this
  obtain ⟨r0, r1⟩ := one_bd hy
  refine ⟨?_, ⟨(four_bd hy 8).1, f2, (four_bd hy 13).1, f3⟩, ⟨(four_bd hy 17).1, by have := (four_bd hy 17).2; show leVal _ ≤ _; omega⟩⟩
  have hz : (q.drop 21).take 39 = List.replicate 39 0 := by
    rw [List.eq_replicate_iff]
    exact ⟨hl 21 39 (by omega), f4⟩
  have hs := split60 q hq
  rw [f0, hz] at hs
  rw [preL, headL, hdOf]
  show lettersL ++ leB (wv q) 4 ++ leB (bit (decide (rv_ q = 1))) 1 ++ (leB (bv q) 4 ++ leB (sv q) 4) ++ List.replicate 39 0 = q
  rw [bit_back _ r0 f1]
  unfold wv rv_ bv sv
  rw [hback 8 4 (by omega), hback 12 1 (by omega), hback 13 4 (by omega), hback 17 4 (by omega)]
  exact hs.symm
theorem take60 (h : Hd) : (packL h).take 60 = preL h ∧ (packL h).drop 60 = leB (crcOf (preL h)) 4 :=
  ⟨List.take_left' (pre_length h), List.drop_left' (pre_length h)⟩
theorem open_pack (h : Hd) (ho : okH h) (hs : sumOk h) : openP (packL h) = (h, 0) := by
  obtain ⟨e1, e2⟩ := take60 h
  have hc := crcOf_lt (pre_bytes h)
  unfold openP
  rw [if_neg (by rw [pack_length]; decide), e1, e2, leVal_leB4 _ (by omega) (by omega), if_neg (by simp), if_pos (pre_form h ho hs).1, (pre_form h ho hs).2]
/-- The reference's test. -/
theorem form_iff (l : List Int) (hl : l.length = 64) (hy : Bytes l) (hc : leVal (l.drop 60) = (crcOf (l.take 60) : Int)) : formB (l.take 60) = true ↔ okH (hdOf (l.take 60)) ∧ packL (hdOf (l.take 60)) = l := by
  have hq : (l.take 60).length = 60 := by rw [List.length_take, hl]; rfl
  have hyq := bytes_take hy 60
  have hcl := crcOf_lt hyq
  constructor
  · intro hf
    obtain ⟨h1, h2, h3⟩ := form_pre _ hq hyq hf
    refine ⟨h2, ?_⟩
    have h4 : leB (leVal (l.drop 60)) 4 = l.drop 60 := by
      have := leB_leVal (l.drop 60) (bytes_drop hy 60)
      rwa [List.length_drop, hl] at this
    rw [packL, h1, ← hc, h4, List.take_append_drop]
  · rintro ⟨ho, hp⟩
    have h5 := (four_bd hyq 17)
    have hs : sumOk (hdOf (l.take 60)) := ⟨h5.1, by show leVal _ ≤ _; omega⟩
    have h6 := (pre_form _ ho hs).1
    have h7 : preL (hdOf (l.take 60)) = l.take 60 := by
      rw [← (take60 (hdOf (l.take 60))).1, hp]
    rwa [h7] at h6
end Go.Proofs.YtblibmalommdkaaGreat.Re

/-
  What the reference's Same answers, of any two rows of bytes; and its OpenHead.
-/
namespace Go.Proofs.YtblibmalommdkaaGreat.Re
open Go.RowKit
set_option maxRecDepth 100000 in
theorem Same_any (A : Option Addr) (n c : Nat) (A2 : Option Addr) (n2 c2 : Nat) (w : World) (l m : List Int) (hl : l.length = n) (hm : m.length = n2) (hr : RdB w w.heap.size A l) (hr2 : RdB w w.heap.size A2 m) (hn : n ≤ 9223372036854775807) (hn2 : n2 ≤ 9223372036854775807) (z : Bool) (hz : decide (l = m) = z) :
    Calls Tryz.prog 15 #[.slice A n c, .slice A2 n2 c2] w fun e w' => e = .returned (.bool z) ∧ Below w.heap.size w w' := by
  by_cases he : n = n2
  · subst he
    have H := Lib.hid hl; have H2 := Lib.hid hm; have HR := Lib.hid hr; have HR2 := Lib.hid hr2; have HZ := Lib.hid hz
    clear hl hm hr hr2 hz
    go_enter Tryz.func15, Tryz.ntmps15
    go_wp2_with fail
    go_loopw [5] (fun i wr => ∃ k : Nat, k ≤ n ∧ i = .int .i64 k ∧ Below w.heap.size w wr ∧ l.take k = m.take k) (fun i _ => n - (intOf i).toNat)
    case atStart => exact ⟨0, Nat.zero_le _, rfl, Below.refl _ _, rfl⟩
    case round =>
      obtain ⟨k, hk, rfl, hb, ht⟩ := hrel
      have HT := Lib.hid ht
      clear ht
      by_cases hlt : k < n
      · obtain ⟨s, hs⟩ := get_some l k (by have := H.out; omega)
        obtain ⟨t, ht⟩ := get_some m k (by have := H2.out; omega)
        obtain ⟨b, off, rfl, hb', h0⟩ := HR.out.below hb (by omega) k s hs
        obtain ⟨b2, off2, rfl, hb2', g0⟩ := HR2.out.below hb (by omega) k t ht
        have HS := Lib.hid hs
        have HT2 := Lib.hid ht
        clear hs ht
        by_cases hst : s = t
        · subst hst
          go_wp2_with fail
          go_quiet (fail)
          go_wp2_with fail
          go_roundw
          case rel => exact ⟨k+1, by omega, by go_num, belowDrewN hb _, by rw [take_snoc l k s HS.out, take_snoc m k s HT2.out, HT.out]⟩
          case measure => simp [intOf]; omega
        · have hzf : z = false := by
            rw [← HZ.out, decide_eq_false_iff_not]
            intro e
            have h1 := HS.out
            rw [e, HT2.out] at h1
            injection h1 with h1
            exact hst h1.symm
          subst hzf
          have hne : (s != t) = true := by simpa using hst
          have hne' : (s == t) = false := by simpa using hst
          go_wp2_with fail
          go_quiet (fail)
          go_wp2_with fail
          go_ret
          exact ⟨rfl, belowDrewN hb _⟩
      · obtain rfl : n = k := by omega
        have hzt : z = true := by
          rw [← HZ.out, decide_eq_true_iff]
          have h1 := HT.out
          rwa [List.take_of_length_le (Nat.le_of_eq H.out), List.take_of_length_le (Nat.le_of_eq H2.out)] at h1
        subst hzt
        clear hlt
        go_wp2_with fail
        go_ret
        exact ⟨rfl, hb⟩
  · have hzf : z = false := by
      rw [← hz, decide_eq_false_iff_not]
      intro e
      exact he (by rw [← hl, ← hm, e])
    subst hzf
    have hne : ((n : Int) != (n2 : Int)) = true := by simp; omega
    have hne' : ((n : Int) == (n2 : Int)) = false := by simp; omega
    have hne2 : (n == n2) = false := by simpa using he
    have hne3 : (n != n2) = true := by simpa using he
    clear hz hl hm hr hr2
    go_enter Tryz.func15, Tryz.ntmps15
    go_wp2_with fail
    go_ret
    exact ⟨rfl, Below.refl _ _⟩
end Go.Proofs.YtblibmalommdkaaGreat.Re

/-
  The superblock, plain: bytes are opened as the superblock that packs to them, or none.
-/
namespace Go.Proofs.YtblibmalommdkaaGreat.Re
structure Sup where
  gen : Int
  roll : Int
  cur : Int
  tail : Int
  orig : Int
def Sup.val (s : Sup) : Value := .agg #[.int .i64 s.gen, .int .i64 s.roll, .int .i64 s.cur, .int .i64 s.tail, .int .i64 s.orig]
def sup0 : Sup := ⟨0, 0, 0, 0, 0⟩
def lettersS : List Int := [111, 99, 116, 97, 118, 111, 48, 49]
def okS (s : Sup) : Prop := 1 ≤ s.gen ∧ s.gen ≤ 1099511627776 ∧ 1 ≤ s.roll ∧ s.roll < 1048576 ∧ 0 ≤ s.cur ∧ s.cur < 16 ∧ 0 ≤ s.tail ∧ s.tail ≤ 16777216 ∧ 0 ≤ s.orig ∧ s.orig ≤ 1048576
instance (s : Sup) : Decidable (okS s) := by unfold okS; infer_instance
def numsS (s : Sup) : List Int := leB s.gen 6 ++ leB s.roll 4 ++ leB s.cur 1 ++ leB s.tail 4 ++ leB s.orig 4
def preS (s : Sup) : List Int := lettersS ++ numsS s ++ List.replicate 33 0
def packS (s : Sup) : List Int := preS s ++ leB (crcOf (preS s)) 4
theorem lettersS_bytes : Bytes lettersS := by intro b hb; simp [lettersS] at hb; omega
theorem numsS_bytes (s : Sup) : Bytes (numsS s) := bytes_append (bytes_append (bytes_append (bytes_append (leB_bytes _ _) (leB_bytes _ _)) (leB_bytes _ _)) (leB_bytes _ _)) (leB_bytes _ _)
theorem preS_bytes (s : Sup) : Bytes (preS s) := bytes_append (bytes_append lettersS_bytes (numsS_bytes s)) (zeros_bytes _)
theorem packS_bytes (s : Sup) : Bytes (packS s) := bytes_append (preS_bytes s) (leB_bytes _ _)
theorem numsS_length (s : Sup) : (numsS s).length = 19 := by simp [numsS, leB_length]
theorem preS_length (s : Sup) : (preS s).length = 60 := by simp [preS, lettersS, numsS_length]
theorem packS_length (s : Sup) : (packS s).length = 64 := by simp [packS, preS_length, leB_length]
/-- What sixty bytes say. -/
def supOf (q : List Int) : Sup := ⟨leVal ((q.drop 8).take 6), leVal ((q.drop 14).take 4), leVal ((q.drop 18).take 1), leVal ((q.drop 19).take 4), leVal ((q.drop 23).take 4)⟩
def zsS (q : List Int) : Bool := ((q.drop 27).take 33).all (fun x => decide (x = 0))
def formS (q : List Int) : Bool := decide ((q.drop 0).take 8 = lettersS) && (zsS q && decide (okS (supOf q)))
theorem splitS (q : List Int) (hq : q.length = 60) : q = (q.drop 0).take 8 ++ ((q.drop 8).take 6 ++ (q.drop 14).take 4 ++ (q.drop 18).take 1 ++ (q.drop 19).take 4 ++ (q.drop 23).take 4) ++ (q.drop 27).take 33 := by
  have e : ∀ (a n : Nat), (q.drop a).take n ++ q.drop (a+n) = q.drop a := fun a n => by rw [← List.drop_drop, List.take_append_drop]
  have h27 : (q.drop 27).take 33 = q.drop 27 := List.take_of_length_le (by rw [List.length_drop, hq]; decide)
  rw [h27]
  simp only [List.append_assoc]
  rw [e 23 4, e 19 4, e 18 1, e 14 4, e 8 6]
  have h8 := e 0 8
  simp
theorem partsS_of (a b c d e f g : List Int) (ha : a.length = 8) (hb : b.length = 6) (hc : c.length = 4) (hd : d.length = 1) (he : e.length = 4) (hf : f.length = 4) (hg : g.length = 33) :
    ∀ q, q = a ++ (b ++ c ++ d ++ e ++ f) ++ g → (q.drop 0).take 8 = a ∧ (q.drop 8).take 6 = b ∧ (q.drop 14).take 4 = c ∧ (q.drop 18).take 1 = d ∧ (q.drop 19).take 4 = e ∧ (q.drop 23).take 4 = f ∧ (q.drop 27).take 33 = g := by
  intro q hq
  have h1 : q = a ++ (b ++ (c ++ (d ++ (e ++ (f ++ g))))) := by rw [hq]; simp
  subst h1
  have d8 : (a ++ (b ++ (c ++ (d ++ (e ++ (f ++ g)))))).drop 8 = b ++ (c ++ (d ++ (e ++ (f ++ g)))) := List.drop_left' ha
  have d14 : (a ++ (b ++ (c ++ (d ++ (e ++ (f ++ g)))))).drop 14 = c ++ (d ++ (e ++ (f ++ g))) := by rw [show (14 : Nat) = 8 + 6 from rfl, ← List.drop_drop, d8]; exact List.drop_left' hb
  have d18 : (a ++ (b ++ (c ++ (d ++ (e ++ (f ++ g)))))).drop 18 = d ++ (e ++ (f ++ g)) := by rw [show (18 : Nat) = 14 + 4 from rfl, ← List.drop_drop, d14]; exact List.drop_left' hc
  have d19 : (a ++ (b ++ (c ++ (d ++ (e ++ (f ++ g)))))).drop 19 = e ++ (f ++ g) := by rw [show (19 : Nat) = 18 + 1 from rfl, ← List.drop_drop, d18]; exact List.drop_left' hd
  have d23 : (a ++ (b ++ (c ++ (d ++ (e ++ (f ++ g)))))).drop 23 = f ++ g := by rw [show (23 : Nat) = 19 + 4 from rfl, ← List.drop_drop, d19]; exact List.drop_left' he
  have d27 : (a ++ (b ++ (c ++ (d ++ (e ++ (f ++ g)))))).drop 27 = g := by rw [show (27 : Nat) = 23 + 4 from rfl, ← List.drop_drop, d23]; exact List.drop_left' hf
  rw [List.drop_zero, d8, d14, d18, d19, d23, d27]
  exact ⟨List.take_left' ha, List.take_left' hb, List.take_left' hc, List.take_left' hd, List.take_left' he, List.take_left' hf, List.take_of_length_le (by omega)⟩
theorem leVal_leB6 (n : Int) (h0 : 0 ≤ n) (h1 : n < 281474976710656) : leVal (leB n 6) = n := leVal_leB 6 n h0 (by simpa using h1)
theorem leVal_leB1 (n : Int) (h0 : 0 ≤ n) (h1 : n < 256) : leVal (leB n 1) = n := leVal_leB 1 n h0 (by simpa using h1)
theorem preS_parts (s : Sup) : ((preS s).drop 0).take 8 = lettersS ∧ ((preS s).drop 8).take 6 = leB s.gen 6 ∧ ((preS s).drop 14).take 4 = leB s.roll 4 ∧ ((preS s).drop 18).take 1 = leB s.cur 1 ∧ ((preS s).drop 19).take 4 = leB s.tail 4 ∧ ((preS s).drop 23).take 4 = leB s.orig 4 ∧ ((preS s).drop 27).take 33 = List.replicate 33 0 :=
  partsS_of _ _ _ _ _ _ _ rfl (leB_length _ _) (leB_length _ _) (leB_length _ _) (leB_length _ _) (leB_length _ _) (by simp) _ (by rw [preS, numsS])
theorem preS_form (s : Sup) (ho : okS s) : formS (preS s) = true ∧ supOf (preS s) = s := by
  obtain ⟨p0, p1, p2, p3, p4, p5, p6⟩ := preS_parts s
  have hs : supOf (preS s) = s := by
    obtain ⟨a0, a1, a2, a3, a4, a5, a6, a7, a8, a9⟩ := ho
    unfold supOf
    rw [p1, p2, p3, p4, p5, leVal_leB6 _ (by omega) (by omega), leVal_leB4 _ (by omega) (by omega), leVal_leB1 _ (by omega) (by omega), leVal_leB4 _ (by omega) (by omega), leVal_leB4 _ (by omega) (by omega)]
  refine ⟨?_, hs⟩
  unfold formS zsS
  rw [p0, p6, hs]
  simp [ho]
theorem form_preS (q : List Int) (hq : q.length = 60) (hy : Bytes q) (hf : formS q = true) : preS (supOf q) = q ∧ okS (supOf q) := by
  unfold formS zsS at hf
  simp only [Bool.and_eq_true, decide_eq_true_eq, List.all_eq_true] at hf
  obtain ⟨f0, f1, f2⟩ := hf
  have hl : ∀ a n : Nat, a + n ≤ 60 → ((q.drop a).take n).length = n := fun a n h => by rw [List.length_take, List.length_drop, hq]; omega
  have hb : ∀ a n : Nat, Bytes ((q.drop a).take n) := fun a n => bytes_take (bytes_drop hy a) n
  have hback : ∀ a n : Nat, a + n ≤ 60 → leB (leVal ((q.drop a).take n)) n = (q.drop a).take n := fun a n h => by
    have := leB_leVal _ (hb a n)
    rwa [hl a n h] at this
  refine ⟨?_, f2⟩
  have hz : (q.drop 27).take 33 = List.replicate 33 0 := by
    rw [List.eq_replicate_iff]
    exact ⟨hl 27 33 (by omega), f1⟩
  have hs := splitS q hq
  rw [f0, hz] at hs
  unfold preS numsS supOf
  simp only
  rw [hback 8 6 (by omega), hback 14 4 (by omega), hback 18 1 (by omega), hback 19 4 (by omega), hback 23 4 (by omega)]
  exact hs.symm
theorem takeS (s : Sup) : (packS s).take 60 = preS s ∧ (packS s).drop 60 = leB (crcOf (preS s)) 4 :=
  ⟨List.take_left' (preS_length s), List.drop_left' (preS_length s)⟩
/-- What sixty-four bytes are opened as. -/
def openS (l : List Int) : Option Sup := if leVal (l.drop 60) = (crcOf (l.take 60) : Int) ∧ formS (l.take 60) = true then some (supOf (l.take 60)) else none
theorem openS_pack (s : Sup) (ho : okS s) : openS (packS s) = some s := by
  obtain ⟨e1, e2⟩ := takeS s
  have hc := crcOf_lt (preS_bytes s)
  unfold openS
  rw [e1, e2, leVal_leB4 _ (by omega) (by omega), if_pos ⟨rfl, (preS_form s ho).1⟩, (preS_form s ho).2]
/-- The reference's test. -/
theorem formS_iff (l : List Int) (hl : l.length = 64) (hy : Bytes l) (hc : leVal (l.drop 60) = (crcOf (l.take 60) : Int)) : formS (l.take 60) = true ↔ okS (supOf (l.take 60)) ∧ packS (supOf (l.take 60)) = l := by
  have hq : (l.take 60).length = 60 := by rw [List.length_take, hl]; rfl
  have hyq := bytes_take hy 60
  constructor
  · intro hf
    obtain ⟨h1, h2⟩ := form_preS _ hq hyq hf
    refine ⟨h2, ?_⟩
    have h4 : leB (leVal (l.drop 60)) 4 = l.drop 60 := by
      have := leB_leVal (l.drop 60) (bytes_drop hy 60)
      rwa [List.length_drop, hl] at this
    rw [packS, h1, ← hc, h4, List.take_append_drop]
  · rintro ⟨ho, hp⟩
    have h6 := (preS_form _ ho).1
    have h7 : preS (supOf (l.take 60)) = l.take 60 := by
      rw [← (takeS (supOf (l.take 60))).1, hp]
    rwa [h7] at h6
end Go.Proofs.YtblibmalommdkaaGreat.Re
