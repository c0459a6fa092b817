/-
  Crash in its parts, ahead of the walk: each file's bytes are the safe ones again; the range behind the pieces.
-/
import Derived.Test.YtlplhllcohoeaaaKept
namespace Go.Proofs.Ytlplhllcohoeaaa
open Go.RowKit
theorem grown_setCell (w : World) (a : Addr) (v : Value) : w.grownBy (w.setCell a v) (some a.block) := by
  refine ⟨rfl, rfl, rfl, by simp, fun i _ hne => ?_⟩
  exact heap_setCell_other _ _ _ _ (fun e => hne (by rw [e]))
section
variable {db mb : Nat} {d : Dv} {lo : Int} {N : Nat} {S : Nat → Prop} {F : Option Nat} {Ap : Option Addr} {np cp : Nat} {ps : List (Int × Value)}
/-- The first range, over the one file. -/
theorem Crash_first (w : World) {fb : Nat} (h : Dk w db mb d lo N S (some fb) Ap np cp ps) (f : Fl) (hdf : d.f = some f) :
    ∃ (w1 w2 w3 : World) (An : Option Addr) (cn : Nat) (As : Option Addr) (cs g k : Nat) (S5 : Nat → Prop),
      (Instr.range 56 (.map (some mb))).run Try.prog (w.alloc (Obj.map #[] 0)) = .ok (.pointer (some ⟨w.heap.size + 1, 0, none⟩)) w1 ∧
      (Instr.next (.pointer (some ⟨w.heap.size + 1, 0, none⟩)) false 0).run Try.prog w1 = .ok (.tuple #[.bool true, .string tl, .pointer (some ⟨fb, 0, none⟩)]) w2 ∧
      (Instr.entry (.pointer (some ⟨w.heap.size + 1, 0, none⟩))).run Try.prog w2 = .ok (.tuple #[.string tl, .pointer (some ⟨fb, 0, none⟩)]) w2 ∧
      fb < w2.heap.size ∧ w2.cell? ⟨fb, 1, none⟩ = some (.slice As f.safe.length cs) ∧
      (appTold #[22, 22] 22 #[.slice (some ⟨w2.heap.size, 0, none⟩) 0 0, .slice As f.safe.length cs]).run Try.prog (w2.alloc (.cells #[] 5)) = .ok (.slice (some ⟨g, 0, none⟩) f.safe.length k) w3 ∧
      w3.frozen? ⟨fb, 0, none⟩ = false ∧ w3.cell? ⟨fb, 0, none⟩ = some (.slice An f.now.length cn) ∧
      (Instr.next (.pointer (some ⟨w.heap.size + 1, 0, none⟩)) false 0).run Try.prog (w3.setCell ⟨fb, 0, none⟩ (.slice (some ⟨g, 0, none⟩) f.safe.length k)) = .ok (.tuple #[.bool false]) (w3.setCell ⟨fb, 0, none⟩ (.slice (some ⟨g, 0, none⟩) f.safe.length k)) ∧
      Dk (w3.setCell ⟨fb, 0, none⟩ (.slice (some ⟨g, 0, none⟩) f.safe.length k)) db mb { d with f := some ⟨f.safe, f.safe, f.sure⟩ } lo N S5 (some fb) Ap np cp ps ∧
      Fr w (w3.setCell ⟨fb, 0, none⟩ (.slice (some ⟨g, 0, none⟩) f.safe.length k)) S S5 ∧
      KM (w3.setCell ⟨fb, 0, none⟩ (.slice (some ⟨g, 0, none⟩) f.safe.length k)) w.heap.size false ∧ ¬ S5 w.heap.size := by
  have hdl := h.lt _ h.sd
  have hb0 : Below w.heap.size w (w.alloc (Obj.map #[] 0)) := (Below.refl _ _).alloc (Nat.le_refl _) _
  have hd0 := h.up hb0
  obtain ⟨w1, hrun, hr1, hg1, hs1⟩ := hd0.map.range
  obtain ⟨w2, hnext, hr2, hg2, hs2, hent⟩ := hr1.one 0
  rw [show ptr (some fb) = Value.pointer (some ⟨fb, 0, none⟩) from rfl] at hnext hent
  have hb2 : Below w.heap.size w w2 := hb0.trans ((below_grown (B := w.heap.size) hg1 (by simp) (by simp)).trans (below_grown hg2 (by intro r e; injection e with e; simp at e; omega) (by simp at hs1; omega)))
  have hd2 := h.up hb2
  obtain ⟨An, cn, As, cs, hf2, hap2⟩ := hd2.fat' hdf
  obtain ⟨f0, f1, f2⟩ := hf2.cells
  have hls := hf2.ls
  obtain ⟨g, k, w3, hrun3, hown3, hb3⟩ := told_lit w2 As f.safe.length cs f.safe rfl hf2.safe.rd hf2.safe.none (by omega)
  obtain ⟨_, _, hg3⟩ := own_cells hown3
  have hfb2 := hd2.lt _ hf2.sf
  obtain ⟨hd4, ho4⟩ := hd2.laid hdf hf2 hap2 (fr_new (An := An) hb3 hg3) (hown3.mono (Nat.zero_le _)) hls
  have z0 : w3.frozen? ⟨fb, 0, none⟩ = false := (hb3.frozen (p := ⟨fb, 0, none⟩) hfb2).trans (hf2.froz 0)
  have y0 : w3.cell? ⟨fb, 0, none⟩ = some (.slice An f.now.length cn) := (hb3.cell (p := ⟨fb, 0, none⟩) hfb2).trans f0
  have hrs : (w.alloc (Obj.map #[] 0)).heap.size = w.heap.size + 1 := by simp
  have hfbw : fb < w.heap.size := h.lt fb (by obtain ⟨_, _, _, _, hf, _⟩ := h.fat' hdf; exact hf.sf)
  have hr4 : RM (w3.setCell ⟨fb, 0, none⟩ (.slice (some ⟨g, 0, none⟩) f.safe.length k)) mb (w.alloc (Obj.map #[] 0)).heap.size (some fb) false := by
    have hgb : w2.grownBy w3 none := ⟨hb3.os, hb3.tape, hb3.output, hb3.size, fun x hx _ => hb3.block x hx⟩
    refine (hr2.kept hgb (by simp) (by simp)).kept (grown_setCell w3 ⟨fb, 0, none⟩ _) (fun e => ?_) (fun e => ?_)
    · injection e with e; exact hd2.map.ne hf2.head e
    · injection e with e; rw [hrs] at e; simp only at e; omega
  have hdone := hr4.done (.inl rfl) 0
  have hz2 : w.heap.size + 2 = w2.heap.size := by simp at hs1; omega
  have hk0 := KM.made w
  have e1 : w1.heap[w.heap.size]? = (w.alloc (Obj.map #[] 0)).heap[w.heap.size]? := hg1.block _ (by simp) (by simp)
  have e2 : w2.heap[w.heap.size]? = w1.heap[w.heap.size]? := hg2.block _ (by simp at hs1; omega) (fun e => by injection e with e; simp at e)
  have e3 : w3.heap[w.heap.size]? = w2.heap[w.heap.size]? := hb3.block _ (by omega)
  have e4 : (w3.setCell ⟨fb, 0, none⟩ (.slice (some ⟨g, 0, none⟩) f.safe.length k)).heap[w.heap.size]? = w3.heap[w.heap.size]? := heap_setCell_other _ _ _ _ (by simp only; omega)
  rw [hrs] at hrun hnext hent hdone
  refine ⟨w1, w2, w3, An, cn, As, cs, g, k, _, hrun, hnext, hent, hfb2, f1, hrun3, z0, y0, hdone, hd4, (Fr.of_below hb2).trans ho4.fr, hk0.same (e4.trans (e3.trans (e2.trans e1))), ?_⟩
  rintro (hx | hx)
  · have := h.lt _ hx; omega
  · omega
/-- The last range, over a file that stays. -/
theorem Crash_keep (w5 : World) {fb : Nat} (hd4 : Dk w5 db mb d lo N S (some fb) Ap np cp ps) (f : Fl) (hdf : d.f = some f) (kb : Nat) (kp : Bool) (hk : KM w5 kb kp) :
    ∃ (w6 w7 w8 w9 : World) (An : Option Addr) (cn : Nat) (As : Option Addr) (cs g k : Nat) (S9 : Nat → Prop),
      (Instr.range 56 (.map (some mb))).run Try.prog w5 = .ok (.pointer (some ⟨w5.heap.size, 0, none⟩)) w6 ∧
      (Instr.next (.pointer (some ⟨w5.heap.size, 0, none⟩)) false 0).run Try.prog w6 = .ok (.tuple #[.bool true, .string tl, .pointer (some ⟨fb, 0, none⟩)]) w7 ∧
      (Instr.entry (.pointer (some ⟨w5.heap.size, 0, none⟩))).run Try.prog w7 = .ok (.tuple #[.string tl, .pointer (some ⟨fb, 0, none⟩)]) w7 ∧
      fb < w7.heap.size ∧ w7.cell? ⟨fb, 0, none⟩ = some (.slice An f.now.length cn) ∧ w7.cell? ⟨fb, 2, none⟩ = some (.bool f.sure) ∧
      (Instr.lookup 78 (.map (some kb)) (.string tl) false).run Try.prog w7 = .ok (.bool kp) w7 ∧
      (appTold #[22, 22] 22 #[.slice (some ⟨w7.heap.size, 0, none⟩) 0 0, .slice An f.now.length cn]).run Try.prog (w7.alloc (.cells #[] 5)) = .ok (.slice (some ⟨g, 0, none⟩) f.now.length k) w8 ∧
      w8.frozen? ⟨fb, 1, none⟩ = false ∧ w8.frozen? ⟨fb, 2, none⟩ = false ∧ w8.cell? ⟨fb, 1, none⟩ = some (.slice As f.safe.length cs) ∧ w8.cell? ⟨fb, 2, none⟩ = some (.bool f.sure) ∧
      w9 = (w8.setCell ⟨fb, 1, none⟩ (.slice (some ⟨g, 0, none⟩) f.now.length k)).setCell ⟨fb, 2, none⟩ (.bool true) ∧
      (Instr.next (.pointer (some ⟨w5.heap.size, 0, none⟩)) false 0).run Try.prog w9 = .ok (.tuple #[.bool false]) w9 ∧
      Dk w9 db mb { d with f := some ⟨f.now, f.now, true⟩ } lo N S9 (some fb) Ap np cp ps ∧ Fr w5 w9 S S9 := by
  obtain ⟨w6, hrun6, hr6, hg6, hs6⟩ := hd4.map.range
  obtain ⟨w7, hnext7, hr7, hg7, hs7, hent7⟩ := hr6.one 0
  rw [show ptr (some fb) = Value.pointer (some ⟨fb, 0, none⟩) from rfl] at hnext7 hent7
  have hb7 : Below w5.heap.size w5 w7 := (below_grown (B := w5.heap.size) hg6 (by simp) (Nat.le_refl _)).trans (below_grown hg7 (by simp) (by omega))
  have hd7 := hd4.up hb7
  obtain ⟨An7, cn7, As7, cs7, hf7, hap7⟩ := hd7.fat' hdf
  obtain ⟨e0, e1, e2⟩ := hf7.cells
  have hln := hf7.ln
  obtain ⟨g8, k8, w8, hrun8, hown8, hb8⟩ := told_lit w7 An7 f.now.length cn7 f.now rfl hf7.now.rd hf7.now.none (by omega)
  have hfb7 := hd7.lt _ hf7.sf
  obtain ⟨w9, hw9⟩ : ∃ w9, w9 = (w8.setCell ⟨fb, 1, none⟩ (.slice (some ⟨g8, 0, none⟩) f.now.length k8)).setCell ⟨fb, 2, none⟩ (.bool true) := ⟨_, rfl⟩
  obtain ⟨hd9, ho9⟩ := hd7.saved hf7 hap7 hb8 hown8 hln w9 hw9
  have z1 : w8.frozen? ⟨fb, 1, none⟩ = false := (hb8.frozen (p := ⟨fb, 1, none⟩) hfb7).trans (hf7.froz 1)
  have z2 : w8.frozen? ⟨fb, 2, none⟩ = false := (hb8.frozen (p := ⟨fb, 2, none⟩) hfb7).trans (hf7.froz 2)
  have y1 : w8.cell? ⟨fb, 1, none⟩ = some (.slice As7 f.safe.length cs7) := (hb8.cell (p := ⟨fb, 1, none⟩) hfb7).trans e1
  have y2 : w8.cell? ⟨fb, 2, none⟩ = some (.bool f.sure) := (hb8.cell (p := ⟨fb, 2, none⟩) hfb7).trans e2
  have hfb5 : fb < w5.heap.size := hd4.lt fb (by obtain ⟨_, _, _, _, hf, _⟩ := hd4.fat' hdf; exact hf.sf)
  have hr9 : RM w9 mb w5.heap.size (some fb) false := by
    have hgb : w7.grownBy w8 none := ⟨hb8.os, hb8.tape, hb8.output, hb8.size, fun x hx _ => hb8.block x hx⟩
    subst hw9
    refine ((hr7.kept hgb (by simp) (by simp)).kept (grown_setCell w8 ⟨fb, 1, none⟩ _) (fun e => ?_) (fun e => ?_)).kept (grown_setCell _ ⟨fb, 2, none⟩ _) (fun e => ?_) (fun e => ?_)
    · injection e with e; exact hd7.map.ne hf7.head e
    · injection e with e; simp only at e; omega
    · injection e with e; exact hd7.map.ne hf7.head e
    · injection e with e; simp only at e; omega
  exact ⟨w6, w7, w8, w9, An7, cn7, As7, cs7, g8, k8, _, hrun6, hnext7, hent7, hfb7, e0, e2, (hk.same (hb7.block _ hk.lt)).look, hrun8, z1, z2, y1, y2, hw9, hr9.done (.inl rfl) 0, hd9, (Fr.of_below hb7).trans ho9.fr⟩
/-- The last range, over a file that was never safe and of which nothing was kept. -/
theorem Crash_drop (w5 : World) {fb : Nat} (hd4 : Dk w5 db mb d lo N S (some fb) Ap np cp ps) (f : Fl) (hdf : d.f = some f) (kb : Nat) (kp : Bool) (hk : KM w5 kb kp) :
    ∃ (w6 w7 w9 : World),
      (Instr.range 56 (.map (some mb))).run Try.prog w5 = .ok (.pointer (some ⟨w5.heap.size, 0, none⟩)) w6 ∧
      (Instr.next (.pointer (some ⟨w5.heap.size, 0, none⟩)) false 0).run Try.prog w6 = .ok (.tuple #[.bool true, .string tl, .pointer (some ⟨fb, 0, none⟩)]) w7 ∧
      (Instr.entry (.pointer (some ⟨w5.heap.size, 0, none⟩))).run Try.prog w7 = .ok (.tuple #[.string tl, .pointer (some ⟨fb, 0, none⟩)]) w7 ∧
      w7.cell? ⟨fb, 2, none⟩ = some (.bool f.sure) ∧
      (Instr.lookup 78 (.map (some kb)) (.string tl) false).run Try.prog w7 = .ok (.bool kp) w7 ∧
      w7.cell? ⟨db, 5, none⟩ = some (.map (some mb)) ∧
      (Builtin.delete_ #[56, 9] 0 #[.map (some mb), .string tl]).run Try.prog w7 = .ok (.tuple #[]) w9 ∧
      (Instr.next (.pointer (some ⟨w5.heap.size, 0, none⟩)) false 0).run Try.prog w9 = .ok (.tuple #[.bool false]) w9 ∧
      Dk w9 db mb { d with f := none } lo N S none Ap np cp ps ∧ Fr w5 w9 S S := by
  obtain ⟨w6, hrun6, hr6, hg6, hs6⟩ := hd4.map.range
  obtain ⟨w7, hnext7, hr7, hg7, hs7, hent7⟩ := hr6.one 0
  rw [show ptr (some fb) = Value.pointer (some ⟨fb, 0, none⟩) from rfl] at hnext7 hent7
  have hb7 : Below w5.heap.size w5 w7 := (below_grown (B := w5.heap.size) hg6 (by simp) (Nat.le_refl _)).trans (below_grown hg7 (by simp) (by omega))
  have hd7 := hd4.up hb7
  obtain ⟨An7, cn7, As7, cs7, hf7, hap7⟩ := hd7.fat' hdf
  obtain ⟨e0, e1, e2⟩ := hf7.cells
  obtain ⟨_, _, _, _, _, c5, _⟩ := hd7.cells
  obtain ⟨w9, hrun9, hr9, hm9, hg9⟩ := hr7.drop 0
  obtain ⟨hd9, ho9⟩ := hd7.dropped hm9 hg9
  exact ⟨w6, w7, w9, hrun6, hnext7, hent7, e2, (hk.same (hb7.block _ hk.lt)).look, c5, hrun9, hr9.done (.inl rfl) 0, hd9, (Fr.of_below hb7).trans (only_fr ho9)⟩
/-- A piece in memory. -/
theorem Dk.piece_all {w : World} (h : Dk w db mb d lo N S F Ap np cp ps) (k : Nat) (hk : k < np) : ∃ g p, Ap = some ⟨g, 0, none⟩ ∧ p ∈ ps ∧ PieceAt w S lo p.1 p.2 ∧ g < w.heap.size ∧ w.cell? ⟨g, k * 3, none⟩ = some (.string tl) ∧ w.cell? ⟨g, k * 3 + 1, none⟩ = some (.int .i64 p.1) ∧ w.cell? ⟨g, k * 3 + 2, none⟩ = some p.2 := by
  obtain ⟨p, hp⟩ := get_some ps k (by rw [h.pend.len]; exact hk)
  obtain ⟨h0, h1, h2⟩ := pcells_get ps k p hp
  have hr := h.pend.row
  rcases hr.2 with ⟨hv, hn⟩ | ⟨g, cap, cur, hv, hb, hg, _⟩
  · omega
  · injection hv with ha _ _
    subst ha
    have hc := hr.cells (g := g) rfl
    have c0 := hc _ _ h0
    have c1 := hc _ _ h1
    have c2 := hc _ _ h2
    rw [add_g] at c0 c1 c2
    exact ⟨g, p, rfl, List.mem_of_getElem? hp, h.pend.all p (List.mem_of_getElem? hp), (Array.getElem?_eq_some_iff.1 hg).1, c0, c1, c2⟩
/-- A loss of power at a disk without files. -/
theorem Crash_gone (w : World) (h : Dk w db mb d lo N S none Ap 0 cp ps) (PA : Option Addr) (m pc : Nat) :
    Calls Try.prog 34 #[.pointer (some ⟨db, 0, none⟩), .slice PA m pc] w fun e w' => e = .returned (.tuple #[]) ∧ Dk w' db mb { d with down := false, armed := false } lo N S none none 0 0 [] ∧ Fr w w' S S := by
  have hmm := @run_makeMap Try.prog
  obtain ⟨_, _, _, _, _, c5, c6⟩ := h.cells
  have hb0 : Below w.heap.size w (w.alloc (Obj.map #[] 0)) := (Below.refl _ _).alloc (Nat.le_refl _) _
  have hd0 := h.up hb0
  have hdl := h.lt _ h.sd
  obtain ⟨w1, hrun, hr1, hg1, hs1⟩ := hd0.map.range
  have hdone := hr1.done (.inr rfl) 0
  have hb1 : Below w.heap.size w w1 := hb0.trans (below_grown (B := w.heap.size) hg1 (by simp) (by simp))
  have hd1 := h.up hb1
  obtain ⟨_, _, _, _, _, d5, d6⟩ := hd1.cells
  obtain ⟨w2, hrun2, hr2, hg2, hs2⟩ := hd1.map.range
  have hdone2 := hr2.done (.inr rfl) 0
  have hb2 : Below w.heap.size w w2 := hb1.trans (below_grown (B := w.heap.size) hg2 (by simp) (by simp at hs1; omega))
  have hd2 := h.up hb2
  obtain ⟨_, _, _, x3, x4, x5, x6⟩ := hd2.cells
  have u3 := hd2.froz 3
  have u4 := hd2.froz 4
  have u6 := hd2.froz 6
  have hrs : (w.alloc (Obj.map #[] 0)).heap.size = w.heap.size + 1 := by simp
  obtain ⟨wE, hwE⟩ : ∃ wE, wE = ((w2.setCell ⟨db, 6, none⟩ (.slice none 0 0)).setCell ⟨db, 4, none⟩ (.bool false)).setCell ⟨db, 3, none⟩ (.bool false) := ⟨_, rfl⟩
  obtain ⟨hdE, hFE⟩ := hd2.off hwE
  have HE := Lib.hid hdE
  have HF := Lib.hid ((Fr.of_below hb2).trans hFE)
  have HWE := Lib.hid hwE
  rw [hrs] at hrun hdone
  clear hd0 hr1 hg1 hs1 hb1 hd1 hr2 hg2 hs2 hb2 hd2 hdE hFE hwE h hb0
  go_enter Try.func34, Try.ntmps34
  go_wp2_with fail
  go_loopw [6] (fun _ wr => wr = w1) (fun _ _ => 0)
  case atStart => rfl
  case round =>
    subst hrel
    go_wp2_with fail
    go_loopw [38] (fun i wx => i = .int .i64 0 ∧ wx = wr) (fun _ _ => 0)
    case atStart => exact ⟨rfl, rfl⟩
    case round =>
      obtain ⟨rfl, rfl⟩ := hrel
      go_wp2_with fail
      go_loopw [10] (fun _ wy => wy = w2) (fun _ _ => 0)
      case atStart => rfl
      case round =>
        subst hrel
        go_wp2_with fail
        rw [← HWE.out]
        refine ⟨rfl, .tuple #[], ?_, rfl, HE.out, HF.out⟩
        first | rfl | (simp [Results, Try.f34]; done) | kernel_rfl
end
end Go.Proofs.Ytlplhllcohoeaaa
