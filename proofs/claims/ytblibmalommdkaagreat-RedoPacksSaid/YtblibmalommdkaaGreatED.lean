/-
  ED: texts of one kind, one behind the other.
-/
import Derived.Test.YtblibmalommdkaaGreatEB
import Derived.Test.YtblibmalommdkaaGreatSF
import Derived.Test.YtblibmalommdkaaGreatEA
import Derived.Test.YtblibmalommdkaaGreatMA
import Derived.Deep.RegionHeld3
/-
  The reader of bytes, whatever bytes there are: On, next, Take, Int, where there are enough bytes and where there are too few.
-/
namespace Go.Proofs.YtblibmalommdkaaGreat.Re
open Go.RowKit
set_option maxRecDepth 100000 in
theorem On_gen (w : World) (A : Option Addr) (n c : Nat) (l : List Int) (hl : l.length = n) (hr : RdB w w.heap.size A l) (hno : A = none → n = 0 ∧ c = 0) (hn : n ≤ 1073741824) :
    Calls Tryz.prog 21 #[.slice A n c] w fun e w' => (∃ rb g c', e = .returned (.pointer (some ⟨rb, 0, none⟩)) ∧ Rdr w' rb (some ⟨g, 0, none⟩) n c' 0 l ∧ c' ≤ 9223372036854775807 ∧ w.heap.size ≤ rb) ∧ Below w.heap.size w w' := by
  have H := Lib.hid hl
  have HR := Lib.hid hr
  have HN := Lib.hid hno
  clear hl hr hno
  go_enter Tryz.func21, Tryz.ntmps21
  go_wp2_with (at_builtin; refine Sc.wpList_append_lit rfl _ _ rfl w.heap.size w.heap.size rfl (Sc.lit_one w) (Nat.le_refl _) A n c l rfl H.out ((HR.out.alloc (Nat.le_refl _) _).more (by simp)) HN.out (by omega) ?_)
  intro g3 c3 w3 hO3 hgrow hg3 hlt3
  have hO3 : OwnB w3 w.heap.size (some ⟨g3, 0, none⟩) n c3 l := hO3
  obtain ⟨hcc, hcm⟩ : n ≤ c3 ∧ c3 ≤ maxLen := by
    rcases hO3.2.2 with ⟨hv, _⟩ | ⟨g, cap', cur, hv, hbg, hg, h1, h2, _⟩
    · cases hv
    · injection hv with ha hn' hc'
      subst hc'
      exact ⟨h1, h2⟩
  have HO3 := Lib.hid hO3
  have hg2 : w.grownBy w3 none := grown_trans (grown_alloc w _) hgrow (fun b h => by injection h with h; right; omega)
  have hb3 : Below w.heap.size w w3 := ⟨hg2.os, hg2.tape, hg2.output, hg2.size, fun k hk => hg2.block k hk (by simp)⟩
  have HB3 := Lib.hid hb3
  have hsz := hb3.size
  have HX : Hid (∀ (cs : Array Value) (e : TypeId), cs[0]? = some (.slice (some ⟨g3, 0, none⟩) n c3) → cs[1]? = some (.int .i64 ((0 : Nat) : Int)) → Rdr (w3.alloc (.cells cs e)) w3.heap.size (some ⟨g3, 0, none⟩) n c3 0 l) := Lib.hid (fun cs e h0 h1 => by
    refine ⟨(cell_new _ _ _ _).trans h0, (cell_new _ _ _ _).trans h1, ?_, ?_, H.out, hcc, by simp⟩
    · have hh := heap_alloc_new w3 (.cells cs e)
      unfold World.frozen?
      rw [hh]; simp
    · exact HO3.out.rd.alloc (Nat.le_refl _) _)
  unfold maxLen at hcm
  clear hgrow hO3 hg2 hb3
  go_wp2_with fail
  go_ret
  exact ⟨⟨w3.heap.size, g3, c3, rfl, HX.out _ _ rfl rfl, by omega, hsz⟩, HB3.out.alloc hsz _⟩
set_option maxRecDepth 100000 in
/-- Too few bytes. -/
theorem next_short (w : World) (rb n c at_ : Nat) (A : Option Addr) (l : List Int) (h : Rdr w rb A n c at_ l) (_hn : n ≤ 1073741824) (hat : at_ ≤ n) (m : Nat) (hm : n < at_ + m) (hm2 : m ≤ 1073741824) :
    Calls Tryz.prog 41 #[.pointer (some ⟨rb, 0, none⟩), .int .i64 (m : Int)] w fun e w' => e = .returned (.tuple #[.slice none 0 0, .int .i64 3]) ∧ ∃ k, w' = w.drewN k := by
  have c0 := h.c0
  have c1 := h.c1
  clear h
  go_enter Tryz.func41, Tryz.ntmps41
  go_wp2_with fail
  go_quiet (fail)
  go_wp2_with fail
  go_ret2
  exact ⟨rfl, _, rfl⟩
set_option maxRecDepth 100000 in
theorem RInt_short (w : World) (rb n c at_ : Nat) (A : Option Addr) (l : List Int) (h : Rdr w rb A n c at_ l) (hn : n ≤ 1073741824) (hat : at_ ≤ n) (m : Nat) (hm : n < at_ + m) (hm1 : 1 ≤ m) (hm4 : m ≤ 6) :
    Calls Tryz.prog 39 #[.pointer (some ⟨rb, 0, none⟩), .int .i64 (m : Int)] w fun e w' => e = .returned (.tuple #[.int .i64 0, .int .i64 3]) ∧ ∃ k, w' = w.drewN k := by
  have H := Lib.hid h
  clear h
  go_enter Tryz.func39, Tryz.ntmps39
  go_wp2_with fail
  refine (next_short _ rb n c at_ A l H.out hn hat m hm (by omega)).mono ?_
  rintro e w1 ⟨rfl, k, rfl⟩
  go_wp2_with fail
  go_ret2
  exact ⟨rfl, k, rfl⟩
set_option maxRecDepth 100000 in
theorem Take_short (w : World) (rb n c at_ : Nat) (A : Option Addr) (l : List Int) (h : Rdr w rb A n c at_ l) (hn : n ≤ 1073741824) (hat : at_ ≤ n) (m : Nat) (hm : n < at_ + m) (hm2 : m ≤ 1073741824) :
    Calls Tryz.prog 23 #[.pointer (some ⟨rb, 0, none⟩), .int .i64 (m : Int)] w fun e w' => e = .returned (.tuple #[.slice none 0 0, .int .i64 3]) ∧ ∃ k, w' = w.drewN k := by
  have H := Lib.hid h
  clear h
  go_enter Tryz.func23, Tryz.ntmps23
  go_wp2_with fail
  refine (next_short _ rb n c at_ A l H.out hn hat m hm hm2).mono ?_
  rintro e w1 ⟨rfl, k, rfl⟩
  go_wp2_with fail
  go_ret2
  exact ⟨rfl, k, rfl⟩
set_option maxRecDepth 100000 in
/-- No bytes. -/
theorem next_zero (w : World) (rb n c at_ g : Nat) (l : List Int) (h : Rdr w rb (some ⟨g, 0, none⟩) n c at_ l) (hn : n ≤ 1073741824) (hc : c ≤ 9223372036854775807) (hat : at_ ≤ n) :
    Calls Tryz.prog 41 #[.pointer (some ⟨rb, 0, none⟩), .int .i64 0] w fun e w' => (∃ b o c', e = .returned (.tuple #[.slice (some ⟨b, o, none⟩) 0 c', .int .i64 0])) ∧ ∃ k, w' = w.drewN k := by
  have c0 := h.c0
  have c1 := h.c1
  have hcap := h.cap
  clear h
  by_cases hca : c = at_
  · subst hca
    go_enter Tryz.func41, Tryz.ntmps41
    go_wp2_with fail
    go_quiet (fail)
    go_wp2_with fail
    go_quiet (fail)
    go_wp2_with fail
    go_ret2
    exact ⟨⟨_, _, _, rfl⟩, _, drewN_drewN _ _ _⟩
  · go_enter Tryz.func41, Tryz.ntmps41
    go_wp2_with fail
    go_quiet (fail)
    go_wp2_with fail
    go_quiet (fail)
    go_wp2_with fail
    go_ret2
    exact ⟨⟨_, _, _, rfl⟩, _, drewN_drewN _ _ _⟩
end Go.Proofs.YtblibmalommdkaaGreat.Re

/-
  The reader of the journal: number and count, where there are enough bytes, and where they give up.
-/
namespace Go.Proofs.YtblibmalommdkaaGreat.Re
open Go.RowKit
/-- How the reader gives up. -/
def gaveUp : Ending := .panicked [{ v := .iface 56 (.agg #[]), recovered := false }]
set_option maxRecDepth 100000 in
theorem number_yes (w : World) (rb n c at_ : Nat) (A : Option Addr) (l : List Int) (h : Rdr w rb A n c at_ l) (hy : Bytes l) (hn : n ≤ 1073741824) (hc : c ≤ 9223372036854775807) (m : Nat) (hm : at_ + m ≤ n) (hm1 : 1 ≤ m) (hm4 : m ≤ 4) :
    Calls Tryz.prog 22 #[.agg #[.pointer (some ⟨rb, 0, none⟩)], .int .i64 (m : Int)] w fun e w' => e = .returned (.int .i64 (leVal ((l.drop at_).take m))) ∧ Rdr w' rb A n c (at_ + m) l ∧ w.grownBy w' (some rb) := by
  have H := Lib.hid h
  have HY := Lib.hid hy
  have hrb := h.lt
  have HB : Hid (Below w.heap.size w (w.alloc (.cells #[.pointer (some ⟨rb, 0, none⟩)] 61))) := Lib.hid ((Below.refl _ _).alloc (Nat.le_refl _) _)
  have H1 : Hid (Rdr (w.alloc (.cells #[.pointer (some ⟨rb, 0, none⟩)] 61)) rb A n c at_ l) := Lib.hid (h.grown HB.out)
  clear h hy
  go_enter Tryz.func22, Tryz.ntmps22
  go_wp2_with fail
  refine (RInt_any _ rb n c at_ A l H1.out HY.out hn hc m hm hm1 (by omega)).mono ?_
  rintro e w1 ⟨rfl, hR, hg⟩
  have HR := Lib.hid hR
  have HG : Hid (w.grownBy w1 (some rb)) := Lib.hid (grown_trans (grown_below HB.out (some rb)) hg (fun b hb => .inl hb))
  clear hR hg
  go_wp2_with fail
  go_ret
  exact ⟨rfl, HR.out, HG.out⟩
set_option maxRecDepth 100000 in
theorem number_no (w : World) (rb n c at_ : Nat) (A : Option Addr) (l : List Int) (h : Rdr w rb A n c at_ l) (hn : n ≤ 1073741824) (hat : at_ ≤ n) (m : Nat) (hm : n < at_ + m) (hm1 : 1 ≤ m) (hm4 : m ≤ 4) :
    Calls Tryz.prog 22 #[.agg #[.pointer (some ⟨rb, 0, none⟩)], .int .i64 (m : Int)] w fun e w' => e = gaveUp ∧ Below w.heap.size w w' := by
  have H := Lib.hid h
  have HB : Hid (Below w.heap.size w (w.alloc (.cells #[.pointer (some ⟨rb, 0, none⟩)] 61))) := Lib.hid ((Below.refl _ _).alloc (Nat.le_refl _) _)
  have H1 : Hid (Rdr (w.alloc (.cells #[.pointer (some ⟨rb, 0, none⟩)] 61)) rb A n c at_ l) := Lib.hid (h.grown HB.out)
  clear h
  go_enter Tryz.func22, Tryz.ntmps22
  go_wp2_with fail
  refine (RInt_short _ rb n c at_ A l H1.out hn hat m hm hm1 (by omega)).mono ?_
  rintro e w1 ⟨rfl, k, rfl⟩
  have HD : Hid (Below w.heap.size w ((w.alloc (.cells #[.pointer (some ⟨rb, 0, none⟩)] 61)).drewN k)) := Lib.hid (belowDrewN HB.out k)
  go_wp2_with fail
  exact ⟨rfl, rfl, HD.out⟩
theorem val_bd {l : List Int} (hy : Bytes l) (at_ m : Nat) (hm4 : m ≤ 4) : 0 ≤ leVal ((l.drop at_).take m) ∧ leVal ((l.drop at_).take m) < 4294967296 :=
  leVal_lt4 _ (bytes_take (bytes_drop hy _) _) (by rw [List.length_take]; omega)
set_option maxRecDepth 100000 in
theorem count_yes (w : World) (rb n c at_ : Nat) (A : Option Addr) (l : List Int) (h : Rdr w rb A n c at_ l) (hy : Bytes l) (hn : n ≤ 1073741824) (hc : c ≤ 9223372036854775807) (m : Nat) (hm : at_ + m ≤ n) (hm1 : 1 ≤ m) (hm4 : m ≤ 4) (q : Nat) (hq : q ≤ 8) (hle : leVal ((l.drop at_).take m) * q ≤ (n : Int) - (at_ + m : Nat)) :
    Calls Tryz.prog 44 #[.agg #[.pointer (some ⟨rb, 0, none⟩)], .int .i64 (m : Int), .int .i64 (q : Int)] w fun e w' => e = .returned (.int .i64 (leVal ((l.drop at_).take m))) ∧ Rdr w' rb A n c (at_ + m) l ∧ w.grownBy w' (some rb) := by
  have H := Lib.hid h
  have HY := Lib.hid hy
  have hrb := h.lt
  have hv := val_bd hy at_ m hm4
  have HB : Hid (Below w.heap.size w (w.alloc (.cells #[.pointer (some ⟨rb, 0, none⟩)] 61))) := Lib.hid ((Below.refl _ _).alloc (Nat.le_refl _) _)
  have H1 : Hid (Rdr (w.alloc (.cells #[.pointer (some ⟨rb, 0, none⟩)] 61)) rb A n c at_ l) := Lib.hid (h.grown HB.out)
  have hw8 : leVal ((l.drop at_).take m) * q ≤ 4294967296 * 8 := by
    have h1 : leVal ((l.drop at_).take m) * q ≤ 4294967296 * q := Int.mul_le_mul_of_nonneg_right (by omega) (by omega)
    omega
  have hw0 : 0 ≤ leVal ((l.drop at_).take m) * q := Int.mul_nonneg hv.1 (by omega)
  clear h hy
  go_enter Tryz.func44, Tryz.ntmps44
  go_wp2_with fail
  refine (number_yes _ rb n c at_ A l H1.out HY.out hn hc m hm hm1 hm4).mono ?_
  rintro e w1 ⟨rfl, hR, hg⟩
  have hx : w1.cell? ⟨w.heap.size, 0, none⟩ = some (.pointer (some ⟨rb, 0, none⟩)) := (World.cell?_of_block (hg.block w.heap.size (by simp) (fun e => by injection e with e; omega))).trans (cell_new w _ _ _)
  have HR := Lib.hid hR
  have HG : Hid (w.grownBy w1 (some rb)) := Lib.hid (grown_trans (grown_below HB.out (some rb)) hg (fun b hb => .inl hb))
  clear hR hg
  obtain ⟨v, hve⟩ : ∃ v, leVal ((l.drop at_).take m) = v := ⟨_, rfl⟩
  rw [hve] at hv hw8 hw0 hle
  try rw [hve]
  have HVE := Lib.hid hve
  clear hve
  obtain ⟨vq, hvq⟩ : ∃ vq, v * (q : Int) = vq := ⟨_, rfl⟩
  have hmul : wrap64 (v * (q : Int)) = vq := by rw [hvq]; rw [hvq] at hw8 hw0; exact IntWalk.wrap64_in _ (by omega)
  rw [hvq] at hle
  clear hvq hw8 hw0
  go_wp2_with fail
  refine (Left_any _ rb n c (at_ + m) A l HR.out hn hm).mono ?_
  rintro e w2 ⟨rfl, k, rfl⟩
  have HR2 := Lib.hid (HR.out.drewN k)
  have HG2 : Hid (w.grownBy (w1.drewN k) (some rb)) := Lib.hid ⟨HG.out.os, HG.out.tape, HG.out.output, HG.out.size, HG.out.block⟩
  have hd : ¬ ((n : Int) - ((at_ : Int) + (m : Int)) < vq) := by rw [Int.natCast_add] at hle; omega
  go_wp2_with fail
  go_ret
  exact ⟨by rw [HVE.out]; rfl, HR2.out, HG2.out⟩
set_option maxRecDepth 100000 in
theorem count_no (w : World) (rb n c at_ : Nat) (A : Option Addr) (l : List Int) (h : Rdr w rb A n c at_ l) (hn : n ≤ 1073741824) (hat : at_ ≤ n) (m : Nat) (hm : n < at_ + m) (hm1 : 1 ≤ m) (hm4 : m ≤ 4) (q : Nat) :
    Calls Tryz.prog 44 #[.agg #[.pointer (some ⟨rb, 0, none⟩)], .int .i64 (m : Int), .int .i64 (q : Int)] w fun e w' => e = gaveUp ∧ Below w.heap.size w w' := by
  have HB : Hid (Below w.heap.size w (w.alloc (.cells #[.pointer (some ⟨rb, 0, none⟩)] 61))) := Lib.hid ((Below.refl _ _).alloc (Nat.le_refl _) _)
  have H1 : Hid (Rdr (w.alloc (.cells #[.pointer (some ⟨rb, 0, none⟩)] 61)) rb A n c at_ l) := Lib.hid (h.grown HB.out)
  clear h
  go_enter Tryz.func44, Tryz.ntmps44
  go_wp2_with fail
  refine (number_no _ rb n c at_ A l H1.out hn hat m hm hm1 hm4).mono ?_
  rintro e w1 ⟨rfl, hb⟩
  have HB1 := Lib.hid (HB.out.trans (hb.mono HB.out.size))
  clear hb
  unfold gaveUp
  go_wp2_with fail
  exact ⟨rfl, rfl, HB1.out⟩
set_option maxRecDepth 100000 in
theorem count_over (w : World) (rb n c at_ : Nat) (A : Option Addr) (l : List Int) (h : Rdr w rb A n c at_ l) (hy : Bytes l) (hn : n ≤ 1073741824) (hc : c ≤ 9223372036854775807) (m : Nat) (hm : at_ + m ≤ n) (hm1 : 1 ≤ m) (hm4 : m ≤ 4) (q : Nat) (hq : q ≤ 8) (hlt : (n : Int) - (at_ + m : Nat) < leVal ((l.drop at_).take m) * q) :
    Calls Tryz.prog 44 #[.agg #[.pointer (some ⟨rb, 0, none⟩)], .int .i64 (m : Int), .int .i64 (q : Int)] w fun e w' => e = gaveUp ∧ w.grownBy w' (some rb) := by
  have H := Lib.hid h
  have HY := Lib.hid hy
  have hrb := h.lt
  have hv := val_bd hy at_ m hm4
  have HB : Hid (Below w.heap.size w (w.alloc (.cells #[.pointer (some ⟨rb, 0, none⟩)] 61))) := Lib.hid ((Below.refl _ _).alloc (Nat.le_refl _) _)
  have H1 : Hid (Rdr (w.alloc (.cells #[.pointer (some ⟨rb, 0, none⟩)] 61)) rb A n c at_ l) := Lib.hid (h.grown HB.out)
  have hw8 : leVal ((l.drop at_).take m) * q ≤ 4294967296 * 8 := by
    have h1 : leVal ((l.drop at_).take m) * q ≤ 4294967296 * q := Int.mul_le_mul_of_nonneg_right (by omega) (by omega)
    omega
  have hw0 : 0 ≤ leVal ((l.drop at_).take m) * q := Int.mul_nonneg hv.1 (by omega)
  clear h hy
  go_enter Tryz.func44, Tryz.ntmps44
  go_wp2_with fail
  refine (number_yes _ rb n c at_ A l H1.out HY.out hn hc m hm hm1 hm4).mono ?_
  rintro e w1 ⟨rfl, hR, hg⟩
  have hx : w1.cell? ⟨w.heap.size, 0, none⟩ = some (.pointer (some ⟨rb, 0, none⟩)) := (World.cell?_of_block (hg.block w.heap.size (by simp) (fun e => by injection e with e; omega))).trans (cell_new w _ _ _)
  have HR := Lib.hid hR
  have HG : Hid (w.grownBy w1 (some rb)) := Lib.hid (grown_trans (grown_below HB.out (some rb)) hg (fun b hb => .inl hb))
  clear hR hg
  obtain ⟨v, hve⟩ : ∃ v, leVal ((l.drop at_).take m) = v := ⟨_, rfl⟩
  rw [hve] at hv hw8 hw0 hlt
  try rw [hve]
  have HVE := Lib.hid hve
  clear hve
  obtain ⟨vq, hvq⟩ : ∃ vq, v * (q : Int) = vq := ⟨_, rfl⟩
  have hmul : wrap64 (v * (q : Int)) = vq := by rw [hvq]; rw [hvq] at hw8 hw0; exact IntWalk.wrap64_in _ (by omega)
  rw [hvq] at hlt
  clear hvq hw8 hw0
  go_wp2_with fail
  refine (Left_any _ rb n c (at_ + m) A l HR.out hn hm).mono ?_
  rintro e w2 ⟨rfl, k, rfl⟩
  have HG2 : Hid (w.grownBy (w1.drewN k) (some rb)) := Lib.hid ⟨HG.out.os, HG.out.tape, HG.out.output, HG.out.size, HG.out.block⟩
  have hd : (n : Int) - ((at_ : Int) + (m : Int)) < vq := by rw [Int.natCast_add] at hlt; omega
  go_wp2_with fail
  exact ⟨rfl, rfl, HG2.out⟩
end Go.Proofs.YtblibmalommdkaaGreat.Re

/-
  A journal's plan as bytes, plain: what is read, and where the reading gives up. No program in sight.
-/
namespace Go.Proofs.YtblibmalommdkaaGreat.Re
/-- A number of m bytes, and the place behind it. -/
def num (l : List Int) (m a : Nat) : Option (Int × Nat) := if a + m ≤ l.length then some (leVal ((l.drop a).take m), a + m) else none
/-- So many things, one behind the other. -/
def many {α : Type} (f : Nat → Option (α × Nat)) : Nat → Nat → Option (List α × Nat)
  | 0, a => some ([], a)
  | k + 1, a => (f a).bind fun p => (many f k p.2).map fun q => (p.1 :: q.1, q.2)
def pRange (l : List Int) (a : Nat) : Option (R × Nat) := (num l 4 a).bind fun x => (num l 4 x.2).map fun y => ((x.1, y.1), y.2)
def pPart (l : List Int) (a : Nat) : Option (S × Nat) := (num l 1 a).bind fun x => (num l 4 x.2).bind fun y => (num l 1 y.2).map fun z => (⟨x.1, y.1, z.1⟩, z.2)
def pStep (l : List Int) (a : Nat) : Option (Stp × Nat) := (num l 4 a).bind fun x => (num l 1 x.2).bind fun k => (many (pPart l) k.1.toNat k.2).map fun y => ((x.1, y.1), y.2)
def pWave (l : List Int) (a : Nat) : Option (List Stp × Nat) := (num l 1 a).bind fun k => many (pStep l) k.1.toNat k.2
def pPlan (l : List Int) (a : Nat) : Option (Pln × Nat) := (num l 4 a).bind fun n => (num l 4 n.2).bind fun k => (many (pRange l) k.1.toNat k.2).bind fun st => (num l 4 st.2).bind fun m => (many (pWave l) m.1.toNat m.2).map fun ws => (⟨n.1, st.1, ws.1⟩, ws.2)
/-- k of N things are read; they are xs, the place is a. -/
structure Many {α : Type} (f : Nat → Option (α × Nat)) (N a0 k : Nat) (xs : List α) (a : Nat) : Prop where
  le : k ≤ N
  len : xs.length = k
  eq : many f N a0 = (many f (N - k) a).map fun p => (xs ++ p.1, p.2)
section
variable {α : Type} {f : Nat → Option (α × Nat)} {N a0 k a b : Nat} {xs : List α} {x : α}
theorem Many.start (f : Nat → Option (α × Nat)) (N a0 : Nat) : Many f N a0 0 [] a0 := ⟨Nat.zero_le _, rfl, by cases h : many f N a0 <;> simp⟩
theorem Many.next (h : Many f N a0 k xs a) (hk : k < N) (hf : f a = some (x, b)) : Many f N a0 (k + 1) (xs ++ [x]) b := by
  refine ⟨hk, by simp [h.len], ?_⟩
  obtain ⟨d, hd⟩ : ∃ d, N - k = d + 1 := ⟨N - k - 1, by omega⟩
  have e : N - (k + 1) = d := by omega
  rw [h.eq, hd, e, many, hf]
  cases hm : many f d b <;> simp [hm]
theorem Many.fail (h : Many f N a0 k xs a) (hk : k < N) (hf : f a = none) : many f N a0 = none := by
  obtain ⟨d, hd⟩ : ∃ d, N - k = d + 1 := ⟨N - k - 1, by omega⟩
  rw [h.eq, hd, many, hf]; rfl
theorem Many.done (h : Many f N a0 N xs a) : many f N a0 = some (xs, a) := by
  rw [h.eq, Nat.sub_self, many]; simp
end
/-- What reads forward, at least q bytes, and not past the end. -/
def Fwd {α : Type} (l : List Int) (q : Nat) (f : Nat → Option (α × Nat)) : Prop := ∀ a x b, a ≤ l.length → f a = some (x, b) → a + q ≤ b ∧ b ≤ l.length
theorem many_fwd {α : Type} {l : List Int} {q : Nat} {f : Nat → Option (α × Nat)} (hf : Fwd l q f) : ∀ N a xs b, a ≤ l.length → many f N a = some (xs, b) → a + N * q ≤ b ∧ b ≤ l.length := by
  intro N
  induction N with
  | zero => intro a xs b ha h; simp [many] at h; obtain ⟨_, rfl⟩ := h; omega
  | succ N ih =>
    intro a xs b ha h
    rw [many] at h
    cases h1 : f a with
    | none => rw [h1] at h; cases h
    | some p =>
      rw [h1] at h
      obtain ⟨x, a1⟩ := p
      obtain ⟨g1, g2⟩ := hf a x a1 ha h1
      cases h2 : many f N a1 with
      | none => simp [h2] at h
      | some r =>
        obtain ⟨ys, a2⟩ := r
        simp [h2] at h
        obtain ⟨_, rfl⟩ := h
        obtain ⟨g3, g4⟩ := ih a1 ys a2 g2 h2
        rw [Nat.succ_mul]
        omega
theorem many_over {α : Type} {l : List Int} {q : Nat} {f : Nat → Option (α × Nat)} (hf : Fwd l q f) (N a : Nat) (ha : a ≤ l.length) (h : l.length < a + N * q) : many f N a = none := by
  cases h1 : many f N a with
  | none => rfl
  | some p =>
    obtain ⟨g1, g2⟩ := many_fwd hf N a p.1 p.2 ha h1
    omega
theorem num_fwd (l : List Int) (m : Nat) : Fwd l m (num l m) := fun a x b _ h => by
  unfold num at h
  split at h
  · injection h with h; injection h with _ h; omega
  · cases h
theorem num_yes {l : List Int} {m a : Nat} (h : a + m ≤ l.length) : num l m a = some (leVal ((l.drop a).take m), a + m) := if_pos h
theorem num_no {l : List Int} {m a : Nat} (h : l.length < a + m) : num l m a = none := if_neg (by omega)
theorem bind_fwd {α β : Type} {l : List Int} {p q : Nat} {f : Nat → Option (α × Nat)} {g : α × Nat → Option (β × Nat)} (hf : Fwd l p f) (hg : ∀ x b, f b = some x → b ≤ l.length → ∀ y, g x = some y → x.2 + q ≤ y.2 ∧ y.2 ≤ l.length) : Fwd l (p + q) fun a => (f a).bind g := fun a x b ha h => by
  cases h1 : f a with
  | none => simp [h1] at h
  | some y =>
    simp [h1] at h
    have h2 := hf a y.1 y.2 ha h1
    have h3 := hg y a h1 ha _ h
    simp only at h3
    omega
theorem pRange_fwd (l : List Int) : Fwd l 8 (pRange l) := fun a x b ha h => by
  unfold pRange at h
  cases h1 : num l 4 a with
  | none => simp [h1] at h
  | some y =>
    have g1 := num_fwd l 4 a y.1 y.2 ha h1
    cases h2 : num l 4 y.2 with
    | none => simp [h1, h2] at h
    | some z =>
      have g2 := num_fwd l 4 y.2 z.1 z.2 g1.2 h2
      simp [h1, h2] at h
      obtain ⟨_, rfl⟩ := h
      omega
theorem pPart_fwd (l : List Int) : Fwd l 6 (pPart l) := fun a x b ha h => by
  unfold pPart at h
  cases h1 : num l 1 a with
  | none => simp [h1] at h
  | some y =>
    have g1 := num_fwd l 1 a y.1 y.2 ha h1
    cases h2 : num l 4 y.2 with
    | none => simp [h1, h2] at h
    | some z =>
      have g2 := num_fwd l 4 y.2 z.1 z.2 g1.2 h2
      cases h3 : num l 1 z.2 with
      | none => simp [h1, h2, h3] at h
      | some u =>
        have g3 := num_fwd l 1 z.2 u.1 u.2 g2.2 h3
        simp [h1, h2, h3] at h
        obtain ⟨_, rfl⟩ := h
        omega
theorem pStep_fwd (l : List Int) : Fwd l 5 (pStep l) := fun a x b ha h => by
  unfold pStep at h
  cases h1 : num l 4 a with
  | none => simp [h1] at h
  | some y =>
    have g1 := num_fwd l 4 a y.1 y.2 ha h1
    cases h2 : num l 1 y.2 with
    | none => simp [h1, h2] at h
    | some z =>
      have g2 := num_fwd l 1 y.2 z.1 z.2 g1.2 h2
      cases h3 : many (pPart l) z.1.toNat z.2 with
      | none => simp [h1, h2, h3] at h
      | some u =>
        have g3 := many_fwd (pPart_fwd l) _ _ u.1 u.2 g2.2 h3
        simp [h1, h2, h3] at h
        obtain ⟨_, rfl⟩ := h
        omega
theorem pWave_fwd (l : List Int) : Fwd l 1 (pWave l) := fun a x b ha h => by
  unfold pWave at h
  cases h1 : num l 1 a with
  | none => simp [h1] at h
  | some y =>
    have g1 := num_fwd l 1 a y.1 y.2 ha h1
    simp [h1] at h
    have g3 := many_fwd (pStep_fwd l) _ _ x b g1.2 h
    omega
end Go.Proofs.YtblibmalommdkaaGreat.Re

/-
  number and count, told by what is read.
-/
namespace Go.Proofs.YtblibmalommdkaaGreat.Re
open Go.RowKit
theorem num_some {l : List Int} {m a b : Nat} {v : Int} (h : num l m a = some (v, b)) : a + m ≤ l.length ∧ v = leVal ((l.drop a).take m) ∧ b = a + m := by
  unfold num at h
  split at h
  · rename_i hh
    injection h with h
    injection h with h1 h2
    exact ⟨hh, h1.symm, h2.symm⟩
  · cases h
theorem num_none {l : List Int} {m a : Nat} (h : num l m a = none) : l.length < a + m := by
  unfold num at h
  split at h
  · cases h
  · omega
theorem num_bd {l : List Int} {m a b : Nat} {v : Int} (hy : Bytes l) (h : num l m a = some (v, b)) (hm : m ≤ 4) : 0 ≤ v ∧ v < 4294967296 := by
  obtain ⟨_, rfl, _⟩ := num_some h
  exact val_bd hy a m hm
theorem num_bd1 {l : List Int} {a b : Nat} {v : Int} (hy : Bytes l) (h : num l 1 a = some (v, b)) : 0 ≤ v ∧ v < 256 := by
  obtain ⟨_, rfl, _⟩ := num_some h
  exact leVal_lt1 _ (bytes_take (bytes_drop hy _) _) (by rw [List.length_take]; omega)
theorem number_at (w : World) (rb n c a b : Nat) (A : Option Addr) (l : List Int) (v : Int) (h : Rdr w rb A n c a l) (hy : Bytes l) (hn : n ≤ 1073741824) (hc : c ≤ 9223372036854775807) (m : Nat) (hm1 : 1 ≤ m) (hm4 : m ≤ 4) (hv : num l m a = some (v, b)) :
    Calls Tryz.prog 22 #[.agg #[.pointer (some ⟨rb, 0, none⟩)], .int .i64 (m : Int)] w fun e w' => e = .returned (.int .i64 v) ∧ Rdr w' rb A n c b l ∧ w.grownBy w' (some rb) := by
  obtain ⟨h1, rfl, rfl⟩ := num_some hv
  exact number_yes w rb n c a A l h hy hn hc m (by have := h.len; omega) hm1 hm4
theorem number_none (w : World) (rb n c a : Nat) (A : Option Addr) (l : List Int) (h : Rdr w rb A n c a l) (hn : n ≤ 1073741824) (hat : a ≤ n) (m : Nat) (hm1 : 1 ≤ m) (hm4 : m ≤ 4) (hv : num l m a = none) :
    Calls Tryz.prog 22 #[.agg #[.pointer (some ⟨rb, 0, none⟩)], .int .i64 (m : Int)] w fun e w' => e = gaveUp ∧ w.grownBy w' (some rb) :=
  (number_no w rb n c a A l h hn hat m (by have := h.len; have := num_none hv; omega) hm1 hm4).mono fun _ _ ⟨h1, h2⟩ => ⟨h1, grown_below h2 _⟩
theorem count_at (w : World) (rb n c a b : Nat) (A : Option Addr) (l : List Int) (v : Int) (h : Rdr w rb A n c a l) (hy : Bytes l) (hn : n ≤ 1073741824) (hc : c ≤ 9223372036854775807) (m : Nat) (hm1 : 1 ≤ m) (hm4 : m ≤ 4) (hv : num l m a = some (v, b)) (q : Nat) (hq : q ≤ 8) (hle : b + v.toNat * q ≤ n) :
    Calls Tryz.prog 44 #[.agg #[.pointer (some ⟨rb, 0, none⟩)], .int .i64 (m : Int), .int .i64 (q : Int)] w fun e w' => e = .returned (.int .i64 v) ∧ Rdr w' rb A n c b l ∧ w.grownBy w' (some rb) := by
  have hb := num_bd hy hv hm4
  obtain ⟨h1, rfl, rfl⟩ := num_some hv
  refine count_yes w rb n c a A l h hy hn hc m (by have := h.len; omega) hm1 hm4 q hq ?_
  have e : leVal ((l.drop a).take m) * (q : Int) = ((leVal ((l.drop a).take m)).toNat * q : Nat) := by rw [Int.natCast_mul, Int.toNat_of_nonneg hb.1]
  rw [e]; omega
theorem count_none (w : World) (rb n c a : Nat) (A : Option Addr) (l : List Int) (h : Rdr w rb A n c a l) (hn : n ≤ 1073741824) (hat : a ≤ n) (m : Nat) (hm1 : 1 ≤ m) (hm4 : m ≤ 4) (hv : num l m a = none) (q : Nat) :
    Calls Tryz.prog 44 #[.agg #[.pointer (some ⟨rb, 0, none⟩)], .int .i64 (m : Int), .int .i64 (q : Int)] w fun e w' => e = gaveUp ∧ w.grownBy w' (some rb) :=
  (count_no w rb n c a A l h hn hat m (by have := h.len; have := num_none hv; omega) hm1 hm4 q).mono fun _ _ ⟨h1, h2⟩ => ⟨h1, grown_below h2 _⟩
theorem count_much (w : World) (rb n c a b : Nat) (A : Option Addr) (l : List Int) (v : Int) (h : Rdr w rb A n c a l) (hy : Bytes l) (hn : n ≤ 1073741824) (hc : c ≤ 9223372036854775807) (m : Nat) (hm1 : 1 ≤ m) (hm4 : m ≤ 4) (hv : num l m a = some (v, b)) (q : Nat) (hq : q ≤ 8) (hlt : n < b + v.toNat * q) :
    Calls Tryz.prog 44 #[.agg #[.pointer (some ⟨rb, 0, none⟩)], .int .i64 (m : Int), .int .i64 (q : Int)] w fun e w' => e = gaveUp ∧ w.grownBy w' (some rb) := by
  have hb := num_bd hy hv hm4
  obtain ⟨h1, rfl, rfl⟩ := num_some hv
  refine count_over w rb n c a A l h hy hn hc m (by have := h.len; omega) hm1 hm4 q hq ?_
  have e : leVal ((l.drop a).take m) * (q : Int) = ((leVal ((l.drop a).take m)).toNat * q : Nat) := by rw [Int.natCast_mul, Int.toNat_of_nonneg hb.1]
  rw [e]; omega
/-- count: the number, and that there may be so many; or nothing, and then there are not so many things. -/
theorem count_any {α : Type} (f : Nat → Option (α × Nat)) (w : World) (rb n c a : Nat) (A : Option Addr) (l : List Int) (h : Rdr w rb A n c a l) (hy : Bytes l) (hn : n ≤ 1073741824) (hc : c ≤ 9223372036854775807) (hat : a ≤ n) (m : Nat) (hm1 : 1 ≤ m) (hm4 : m ≤ 4) (q : Nat) (hq : q ≤ 8) (hf : Fwd l q f) :
    (∃ v b, num l m a = some (v, b) ∧ b ≤ n ∧ (0 ≤ v ∧ v < 4294967296) ∧ b + v.toNat * q ≤ n ∧ Calls Tryz.prog 44 #[.agg #[.pointer (some ⟨rb, 0, none⟩)], .int .i64 (m : Int), .int .i64 (q : Int)] w fun e w' => e = .returned (.int .i64 v) ∧ Rdr w' rb A n c b l ∧ w.grownBy w' (some rb)) ∨
    ((∀ v b, num l m a = some (v, b) → many f v.toNat b = none) ∧ Calls Tryz.prog 44 #[.agg #[.pointer (some ⟨rb, 0, none⟩)], .int .i64 (m : Int), .int .i64 (q : Int)] w fun e w' => e = gaveUp ∧ w.grownBy w' (some rb)) := by
  cases hv : num l m a with
  | none => exact .inr ⟨fun v b e => (by cases e), count_none w rb n c a A l h hn hat m hm1 hm4 hv q⟩
  | some p =>
    obtain ⟨v, b⟩ := p
    have hl := h.len
    have hbb := num_some hv
    by_cases hle : b + v.toNat * q ≤ n
    · exact .inl ⟨v, b, rfl, by omega, num_bd hy hv hm4, hle, count_at w rb n c a b A l v h hy hn hc m hm1 hm4 hv q hq hle⟩
    · refine .inr ⟨fun v' b' e => ?_, count_much w rb n c a b A l v h hy hn hc m hm1 hm4 hv q hq (by omega)⟩
      injection e with e
      injection e with e1 e2
      subst e1; subst e2
      exact many_over hf _ _ (by omega) (by omega)
end Go.Proofs.YtblibmalommdkaaGreat.Re

/-
  The reference's reading: next, where there are enough bytes, where there are too few, and behind that.
-/
namespace Go.Proofs.YtblibmalommdkaaGreat.Re
open Go.RowKit
/-- The reading at block gb: its bytes, the place, whether there were too few. -/
structure Rdg (w : World) (gb : Nat) (A : Option Addr) (n c at_ : Nat) (l : List Int) (bad : Bool) : Prop where
  b0 : w.heap[gb]? = some (.cells #[.slice A n c, .int .i64 (at_ : Int), .bool bad] 70 (0, 0))
  rd : RdB w gb A l
  len : l.length = n
  cap : n ≤ c ∧ c ≤ 9223372036854775807
  no : A = none → n = 0 ∧ c = 0
section
variable {w w' : World} {gb n c at_ : Nat} {A : Option Addr} {l : List Int} {bad : Bool}
theorem Rdg.lt (h : Rdg w gb A n c at_ l bad) : gb < w.heap.size := (Array.getElem?_eq_some_iff.1 h.b0).1
theorem Rdg.c0 (h : Rdg w gb A n c at_ l bad) : w.cell? ⟨gb, 0, none⟩ = some (.slice A n c) := cell_of_row _ _ 0 _ 70 (0, 0) h.b0
theorem Rdg.c1 (h : Rdg w gb A n c at_ l bad) : w.cell? ⟨gb, 1, none⟩ = some (.int .i64 (at_ : Int)) := cell_of_row _ _ 1 _ 70 (0, 0) h.b0
theorem Rdg.c2 (h : Rdg w gb A n c at_ l bad) : w.cell? ⟨gb, 2, none⟩ = some (.bool bad) := cell_of_row _ _ 2 _ 70 (0, 0) h.b0
theorem Rdg.fz (h : Rdg w gb A n c at_ l bad) (j : Nat) : w.frozen? ⟨gb, j, none⟩ = false := frozen_of_row _ _ j _ _ h.b0
theorem Rdg.keep (h : Rdg w gb A n c at_ l bad) (hk : ∀ b, b ≤ gb → w'.heap[b]? = w.heap[b]?) : Rdg w' gb A n c at_ l bad :=
  ⟨(hk gb (Nat.le_refl _)).trans h.b0, h.rd.keep fun q hq => World.cell?_of_block (hk q.block (Nat.le_of_lt hq)), h.len, h.cap, h.no⟩
theorem Rdg.below (h : Rdg w gb A n c at_ l bad) (hb : Below w.heap.size w w') : Rdg w' gb A n c at_ l bad := h.keep fun b hb' => hb.block b (by have := h.lt; omega)
theorem Rdg.at (h : Rdg w gb A n c at_ l bad) (k : Nat) : Rdg (w.setCell ⟨gb, 1, none⟩ (.int .i64 (k : Int))) gb A n c k l bad :=
  ⟨by rw [heap_setCell_same w gb 1 _ 70 _ h.b0]; simp, h.rd.keep fun q hq => World.cell?_setCell_other _ _ _ _ (by intro e; rw [← e] at hq; exact absurd hq (Nat.lt_irrefl _)), h.len, h.cap, h.no⟩
theorem Rdg.spoil (h : Rdg w gb A n c at_ l bad) : Rdg (w.setCell ⟨gb, 2, none⟩ (.bool true)) gb A n c at_ l true :=
  ⟨by rw [heap_setCell_same w gb 2 _ 70 _ h.b0]; simp, h.rd.keep fun q hq => World.cell?_setCell_other _ _ _ _ (by intro e; rw [← e] at hq; exact absurd hq (Nat.lt_irrefl _)), h.len, h.cap, h.no⟩
theorem Rdg.drewN (h : Rdg w gb A n c at_ l bad) (k : Nat) : Rdg (w.drewN k) gb A n c at_ l bad := ⟨h.b0, h.rd, h.len, h.cap, h.no⟩
end
theorem grown_drew_set (w : World) (k : Nat) (a : Addr) (v : Value) : w.grownBy ((w.drewN k).setCell a v) (some a.block) := by
  have hg := grown_setCell (w.drewN k) a v
  exact ⟨hg.os, hg.tape, hg.output, hg.size, hg.block⟩
set_option maxRecDepth 100000 in
theorem next_bad (w : World) (gb n c at_ : Nat) (A : Option Addr) (l : List Int) (h : Rdg w gb A n c at_ l true) (m : Nat) :
    Calls Tryz.prog 28 #[.pointer (some ⟨gb, 0, none⟩), .int .i64 (m : Int)] w fun e w' => e = .returned (.int .i64 0) ∧ Rdg w' gb A n c at_ l true ∧ w.grownBy w' (some gb) := by
  have H := Lib.hid h
  have c2 := h.c2
  have f2 := h.fz 2
  clear h
  go_enter Tryz.func28, Tryz.ntmps28
  go_wp2_with fail
  go_quiet (fail)
  go_wp2_with fail
  go_ret
  exact ⟨rfl, ((H.out.drewN _).spoil), grown_drew_set _ _ _ _⟩
set_option maxRecDepth 100000 in
theorem next_few (w : World) (gb n c at_ : Nat) (A : Option Addr) (l : List Int) (h : Rdg w gb A n c at_ l false) (_hn : n ≤ 1073741824) (hat : at_ ≤ n) (m : Nat) (hm : n < at_ + m) (hm4 : m ≤ 1073741824) :
    Calls Tryz.prog 28 #[.pointer (some ⟨gb, 0, none⟩), .int .i64 (m : Int)] w fun e w' => e = .returned (.int .i64 0) ∧ Rdg w' gb A n c at_ l true ∧ w.grownBy w' (some gb) := by
  have H := Lib.hid h
  have c0 := h.c0
  have c1 := h.c1
  have c2 := h.c2
  have f2 := h.fz 2
  have hd : decide ((n : Int) - (at_ : Int) < (m : Int)) = true := decide_eq_true (by omega)
  clear h
  go_enter Tryz.func28, Tryz.ntmps28
  go_wp2_with fail
  go_quiet (fail)
  go_wp2_with fail
  go_ret
  exact ⟨rfl, ((H.out.drewN _).spoil), grown_drew_set _ _ _ _⟩
set_option maxRecDepth 100000 in
set_option maxHeartbeats 1000000 in
theorem next_yes (w : World) (gb n c at_ : Nat) (A : Option Addr) (l : List Int) (h : Rdg w gb A n c at_ l false) (hy : Bytes l) (hn : n ≤ 1073741824) (m : Nat) (hm : at_ + m ≤ n) (hm1 : 1 ≤ m) (hm4 : m ≤ 4) :
    Calls Tryz.prog 28 #[.pointer (some ⟨gb, 0, none⟩), .int .i64 (m : Int)] w fun e w' => e = .returned (.int .i64 (leVal ((l.drop at_).take m))) ∧ Rdg w' gb A n c (at_ + m) l false ∧ w.grownBy w' (some gb) := by
  have H := Lib.hid h
  have HY := Lib.hid hy
  have c0 := h.c0
  have c1 := h.c1
  have c2 := h.c2
  have f1 := h.fz 1
  have hcap := h.cap
  have hgl := h.lt
  have hd : decide ((n : Int) - (at_ : Int) < (m : Int)) = false := decide_eq_false (by omega)
  obtain ⟨s, hs⟩ := get_some l 0 (by rw [h.len]; omega)
  obtain ⟨b, off, rfl, hbl, _⟩ := h.rd 0 s hs
  have HP := Lib.hid (h.rd.piece at_ m)
  have HLn : Hid (((l.drop at_).take m).length = m) := Lib.hid (by rw [List.length_take, List.length_drop, h.len]; omega)
  clear h hy hs
  have i0 : (0 : Int) ≤ (at_ : Int) := by omega
  have i1 : (at_ : Int) ≤ (at_ : Int) + (m : Int) := by omega
  have i2 : (at_ : Int) + (m : Int) ≤ (c : Int) := by omega
  have i3 : IntKind.i64.wrap ((at_ : Int) + (m : Int)) = (at_ : Int) + (m : Int) := IntWalk.i64_in _ (by omega)
  have i4 : ¬ (c = at_) := by omega
  go_enter Tryz.func28, Tryz.ntmps28
  go_wp2_with fail
  go_quiet (fail)
  go_wp2_with fail
  have hcall := value_any (some ⟨b, off + at_, none⟩) m (c - at_) (w.drewN nq).drew _ HLn.out (((HP.out.drewN nq).drewN 1).more (Nat.le_of_lt hgl)) (bytes_take (bytes_drop HY.out _) _) hm1 (by omega)
  have e1 : at_ + m - at_ = m := by omega
  rw [← e1] at hcall
  rw [show ((l.drop at_).take (at_ + m - at_)) = (l.drop at_).take m by rw [e1]] at hcall
  clear e1
  have d1 : (w.drewN nq).cell? ⟨gb, 1, none⟩ = some (.int .i64 (at_ : Int)) := c1
  have d0 : (w.drewN nq).cell? ⟨gb, 0, none⟩ = some (.slice (some ⟨b, off, none⟩) n c) := c0
  go_region_held3 (fun w' => w'.cell? ⟨gb, 0, none⟩ = some (.slice (some ⟨b, off, none⟩) n c) ∧ w'.cell? ⟨gb, 1, none⟩ = some (.int .i64 (at_ : Int)))
    (first | exact ⟨c0, c1⟩ | (go_keep; done))
    ((first | (go_at_call 47; refine hcall.mono ?_; rintro e w9 ⟨rfl, rfl⟩) | fail))
  all_goals
    have HS := Lib.hid (((H.out.drewN nq).drewN 1).at (at_ + m))
    rw [Int.natCast_add] at HS
    go_wp2_with fail
    go_ret
    exact ⟨rfl, HS.out, grown_drew_set w (nq + 1) _ _⟩
/-- next, whatever there is. -/
theorem next_all (w : World) (gb n c a : Nat) (A : Option Addr) (l : List Int) (bad : Bool) (h : Rdg w gb A n c a l bad) (hy : Bytes l) (hn : n ≤ 1073741824) (hat : a ≤ n) (m : Nat) (hm1 : 1 ≤ m) (hm4 : m ≤ 4) :
    Calls Tryz.prog 28 #[.pointer (some ⟨gb, 0, none⟩), .int .i64 (m : Int)] w fun e w' => ∃ (v : Int) (b : Nat) (bad' : Bool), e = .returned (.int .i64 v) ∧ Rdg w' gb A n c b l bad' ∧ b ≤ n ∧ (0 ≤ v ∧ v < 256 ^ m) ∧ (bad' = false → bad = false ∧ num l m a = some (v, b)) ∧ (bad' = true → bad = true ∨ num l m a = none) ∧ w.grownBy w' (some gb) := by
  have hl := h.len
  have hpos : (0 : Int) < 256 ^ m := Int.pow_pos (by decide)
  cases bad with
  | true =>
    refine (next_bad w gb n c a A l h m).mono ?_
    rintro e w' ⟨rfl, h1, h2⟩
    exact ⟨0, a, true, rfl, h1, hat, ⟨Int.le_refl _, hpos⟩, (fun e => by cases e), (fun _ => .inl rfl), h2⟩
  | false =>
    cases hv : num l m a with
    | none =>
      refine (next_few w gb n c a A l h hn hat m (by have := num_none hv; omega) (by omega)).mono ?_
      rintro e w' ⟨rfl, h1, h2⟩
      exact ⟨0, a, true, rfl, h1, hat, ⟨Int.le_refl _, hpos⟩, (fun e => by cases e), (fun _ => .inr rfl), h2⟩
    | some p =>
      obtain ⟨v, b⟩ := p
      obtain ⟨g1, rfl, rfl⟩ := num_some hv
      refine (next_yes w gb n c a A l h hy hn m (by omega) hm1 hm4).mono ?_
      rintro e w' ⟨rfl, h1, h2⟩
      have hb := leVal_bd ((l.drop a).take m) (bytes_take (bytes_drop hy _) _)
      rw [show ((l.drop a).take m).length = m by rw [List.length_take, List.length_drop]; omega] at hb
      exact ⟨_, _, false, rfl, h1, by omega, hb, (fun _ => ⟨rfl, rfl⟩), (fun e => by cases e), h2⟩
end Go.Proofs.YtblibmalommdkaaGreat.Re
