/-
  What settled leaves where nothing is pending, and what Load leaves of a disk without files.
-/
import Derived.Test.YtlplhllcohoeaaaTurns
import Derived.Test.YtlplhllcohoeaaaLit
import Derived.Deep.RegionHeld3
namespace Go.Proofs.Ytlplhllcohoeaaa
open Go.RowKit
section
variable {db mb : Nat} {d : Dv} {lo : Int} {N : Nat} {S : Nat → Prop} {F : Option Nat}
theorem settled_nil (w : World) (h : Dk w db mb d lo N S F none 0 0 []) :
    Calls Try.prog 26 #[.pointer (some ⟨db, 0, none⟩), .string tl] w fun e w' => e = .returned (.tuple #[]) ∧ Dk w' db mb d lo N S F none 0 0 [] ∧ Fr w w' S S := by
  obtain ⟨_, _, _, _, _, _, c6⟩ := h.cells
  have z6 := h.froz 6
  have hs := h.sd
  have fin : Dk (w.setCell ⟨db, 6, none⟩ (.slice none 0 0)) db mb d lo N S F none 0 0 [] := by
    refine h.setD (by simp) (fun g hg => heap_setCell_other _ _ _ _ hg) ?_ rfl rfl (Nat.le_refl _) h.cg h.lf
    rw [heap_setCell_same _ _ _ _ _ _ h.head]
    rfl
  have HF := Lib.hid fin
  clear h fin
  go_enter Try.func26, Try.ntmps26
  go_wp2_with fail
  go_loopw [4, 12] (fun v i wr => v = .slice none 0 0 ∧ i = .int .i64 0 ∧ wr = w) (fun _ _ _ => 0)
  case atStart => exact ⟨rfl, rfl, rfl⟩
  case round =>
    obtain ⟨rfl, rfl, rfl⟩ := hrel
    go_wp2_with fail
    refine ⟨rfl, .tuple #[], ?_, rfl, HF.out, fr_set _ hs⟩
    first | rfl | (simp [Results, Try.f26]; done) | kernel_rfl
/-- A map with no file, or one. -/
def FMx (w : World) (mb : Nat) : Prop := ∃ F, FM w mb F
theorem FMx.put_ex {w : World} {mb : Nat} (h : FMx w mb) (g : Nat) : ∃ w', (Instr.mapUpdate 56 (.map (some mb)) (.string tl) (.pointer (some ⟨g, 0, Option.none⟩))).run Try.prog w = .ok () w' ∧ FM w' mb (some g) ∧ w.grownBy w' (some mb) := by
  obtain ⟨F, h⟩ := h
  exact FM.put h g
open Classical in
/-- The world behind the store of a file. -/
noncomputable def putW (w : World) (mb g : Nat) : World := if h : FMx w mb then Classical.choose (FMx.put_ex h g) else w
theorem putW_run {w : World} {mb : Nat} (h : FMx w mb) (g : Nat) : (Instr.mapUpdate 56 (.map (some mb)) (.string tl) (.pointer (some ⟨g, 0, Option.none⟩))).run Try.prog w = .ok () (putW w mb g) := by
  unfold putW; rw [dif_pos h]; exact (Classical.choose_spec (FMx.put_ex h g)).1
theorem putW_spec {w : World} {mb : Nat} (h : FMx w mb) (g : Nat) : FM (putW w mb g) mb (some g) ∧ w.grownBy (putW w mb g) (some mb) := by
  unfold putW; rw [dif_pos h]; exact (Classical.choose_spec (FMx.put_ex h g)).2
theorem FMx.kept {w w' : World} {mb : Nat} {row : Option Nat} (h : FMx w mb) (hg : w.grownBy w' row) (hne : some mb ≠ row) : FMx w' mb := by
  obtain ⟨F, h⟩ := h
  exact ⟨F, h.kept hg hne⟩
theorem FMx.alloc {w : World} {mb : Nat} (h : FMx w mb) (o : Obj) : FMx (w.alloc o) mb := h.kept (World.grownBy_alloc _ _ none) (by simp)
theorem FMx.drew {w : World} {mb : Nat} (h : FMx w mb) : FMx w.drew mb := by
  obtain ⟨F, h⟩ := h
  exact ⟨F, h.same rfl⟩
theorem row_grown {w w' : World} {base e sz n c : Nat} {A : Option Addr} {xs : List Value} {row : Option Nat} (h : w.ownsRow base e sz (.slice A n c) n xs) (hg : w.grownBy w' row) (hx : ∀ a, A = some a → some a.block ≠ row) : w'.ownsRow base e sz (.slice A n c) n xs := by
  obtain ⟨h1, h2⟩ := h
  refine ⟨h1, ?_⟩
  rcases h2 with h2 | ⟨g, cap, cur, hv, hb, hg', r⟩
  · exact .inl h2
  · injection hv with ha hn hc
    subst ha
    exact .inr ⟨g, cap, cur, by rw [hc], hb, (hg.block g (Array.getElem?_eq_some_iff.1 hg').1 (hx _ rfl)).trans hg', r⟩
theorem OwnB.grown {w w' : World} {base n c : Nat} {A : Option Addr} {l : List Int} {row : Option Nat} (h : OwnB w base A n c l) (hg : w.grownBy w' row) (hx : ∀ a, A = some a → some a.block ≠ row) : OwnB w' base A n c l := ⟨h.1, row_grown h.2 hg hx⟩
theorem own_cells {w : World} {base g n c : Nat} {l : List Int} (h : OwnB w base (some ⟨g, 0, none⟩) n c l) : ∃ cs, w.heap[g]? = some (.cells cs 5 (0, 0)) ∧ base ≤ g := by
  rcases h.2.2 with ⟨h2, _⟩ | ⟨g', cap, cur, hv, hb, hg, r⟩
  · cases h2
  · injection hv with ha hn hc
    injection ha with ha
    injection ha with ha
    subst ha
    exact ⟨cur, hg, hb⟩
/-- The disk behind Load: a file, made of two rows that came up. -/
theorem Dk.loaded {w : World} (h : Dk w db mb d lo N S none none 0 0 []) {W : World} (hW : Below w.heap.size w W) {ga ca gb cb m : Nat} {b : List Int} (ha : OwnB W w.heap.size (some ⟨ga, 0, none⟩) m ca b) (hb : OwnB W w.heap.size (some ⟨gb, 0, none⟩) m cb b) (hne : ga ≠ gb) (hm : m ≤ 1099511627776)
    (W1 : World) (hW1 : W1 = W.alloc (.cells #[.slice (some ⟨ga, 0, none⟩) m ca, .slice (some ⟨gb, 0, none⟩) m cb, .bool true] 65)) :
    Dk (putW W1 mb W.heap.size) db mb { d with f := some ⟨b, b, true⟩ } lo N (fun g => S g ∨ (w.heap.size ≤ g ∧ g < (putW W1 mb W.heap.size).heap.size)) (some W.heap.size) none 0 0 [] ∧ Fr w (putW W1 mb W.heap.size) S (fun g => S g ∨ (w.heap.size ≤ g ∧ g < (putW W1 mb W.heap.size).heap.size)) := by
  have hs := hW.size
  have hB1 : Below w.heap.size w W1 := by subst hW1; exact hW.alloc hs _
  have hFM : FM W1 mb none := h.map.same (hB1.block _ h.map.lt)
  obtain ⟨hF2, hg⟩ := putW_spec ⟨_, hFM⟩ W.heap.size
  have hsz : W1.heap.size = W.heap.size + 1 := by subst hW1; simp
  have hs2 := hg.size
  have hmlt := h.map.lt
  obtain ⟨ca', hca, hba⟩ := own_cells ha
  obtain ⟨cb', hcb, hbb⟩ := own_cells hb
  have hla := (Array.getElem?_eq_some_iff.1 hca).1
  have hlb := (Array.getElem?_eq_some_iff.1 hcb).1
  have ha1 : OwnB W1 w.heap.size (some ⟨ga, 0, none⟩) m ca b := by subst hW1; exact ha.alloc _
  have hb1 : OwnB W1 w.heap.size (some ⟨gb, 0, none⟩) m cb b := by subst hW1; exact hb.alloc _
  have ha2 := (ha1.grown hg (fun a e h2 => by cases e; injection h2 with h2; simp only at h2; omega)).mono (Nat.zero_le _)
  have hb2 := (hb1.grown hg (fun a e h2 => by cases e; injection h2 with h2; simp only at h2; omega)).mono (Nat.zero_le _)
  have hbl := hb.1
  subst hbl
  have hold : ∀ g, g < w.heap.size → g ≠ mb → (putW W1 mb W.heap.size).heap[g]? = w.heap[g]? := fun g hl hne => (hg.block g (by omega) (fun e => hne (by injection e))).trans (hB1.block g hl)
  have hdm : db ≠ mb := fun e => h.map.ne h.head e.symm
  refine ⟨⟨?_, hF2, .inr ⟨W.heap.size, _, some ⟨ga, 0, none⟩, ca, some ⟨gb, 0, none⟩, cb, rfl, rfl, ⟨?_, ha2, hb2, .inr ⟨hs, by omega⟩, fun a e => by cases e; exact .inr ⟨hba, by show ga < _; omega⟩, fun a e => by cases e; exact .inr ⟨hbb, by show gb < _; omega⟩, fun a b e1 e2 => by cases e1; cases e2; exact hne, hm, hm⟩, fun p hp => by cases hp⟩, ⟨World.ownsRow_nil .., rfl, by simp, by simp⟩, h.pn, .inl h.sd, .inl h.sm, ?_, h.rm, h.cg, h.lf⟩, ⟨hg.os.trans hB1.os, hg.tape.trans hB1.tape, hg.output.trans hB1.output, by omega, fun g hl hS => ⟨hold g hl (fun e => hS (e ▸ h.sm)), fun hx => by
    rcases hx with hx | hx
    · exact hS hx
    · omega⟩⟩⟩
  · rw [hold db (h.lt _ h.sd) hdm]; exact h.head
  · rw [hg.block _ (by omega) (fun e => by injection e with e; omega)]
    subst hW1
    exact heap_alloc_new W _
  · rintro g (hS | hS)
    · have := h.lt _ hS; omega
    · exact hS.2
theorem RdB.fr {w w' : World} {S S' : Nat → Prop} {A : Option Addr} {b : List Int} (h : RdB w w.heap.size A b) (hsep : ∀ a, A = some a → b ≠ [] → ¬ S a.block) (hf : Fr w w' S S') : RdB w' w'.heap.size A b := by
  intro k s hs
  obtain ⟨bb, off, e, hbb, h0⟩ := h k s hs
  have hn := hsep _ e (by rintro rfl; simp at hs)
  exact ⟨bb, off, e, Nat.lt_of_lt_of_le hbb hf.size, (World.cell?_of_block (w := w) (a := ⟨bb, off + k, none⟩) (hf.beside bb hbb hn).1).trans h0⟩
theorem Dk.look5 {w W : World} (h : Dk w db mb d lo N S F none 0 0 []) (hb : Below w.heap.size w W) : W.cell? ⟨db, 5, none⟩ = some (.map (some mb)) ∧ FMx W mb := by
  obtain ⟨_, _, _, _, _, c5, _⟩ := (h.keep hb.size fun g hg => hb.block g (h.lt g hg)).cells
  exact ⟨c5, _, h.map.same (hb.block _ h.map.lt)⟩
theorem Dk.look5p {w W : World} (h : Dk w db mb d lo N S F none 0 0 []) (hb : Below w.heap.size w W) (g : Nat) : (putW W mb g).cell? ⟨db, 5, none⟩ = some (.map (some mb)) ∧ FMx (putW W mb g) mb := by
  obtain ⟨c5, hx⟩ := h.look5 hb
  obtain ⟨h1, h2⟩ := putW_spec hx g
  have hdm : db ≠ mb := fun e => h.map.ne h.head e.symm
  refine ⟨?_, _, h1⟩
  rw [h2.cell_far _ (by show db < _; have := h.lt _ h.sd; have := hb.size; omega) (by intro e; injection e with e; exact hdm e)]
  exact c5
theorem Load_new (w : World) (h : Dk w db mb d lo N S none none 0 0 []) (A : Option Addr) (m c : Nat) (b : List Int) (hlen : b.length = m) (hr : RdB w w.heap.size A b) (hno : A = none → m = 0 ∧ c = 0) (hsep : ∀ a, A = some a → b ≠ [] → ¬ S a.block) (hm : m ≤ 1048576) (hf : (m : Int) ≤ d.room) :
    Calls Try.prog 8 #[.pointer (some ⟨db, 0, none⟩), .string tl, .slice A m c] w fun e w' => e = .returned (.int .i64 0) ∧ ∃ fb S', Dk w' db mb { d with f := some ⟨b, b, true⟩ } lo N S' (some fb) none 0 0 [] ∧ Fr w w' S S' := by
  obtain ⟨i0, hi, hz0, hz1, hz2⟩ := info_parts info5
  obtain ⟨_, _, _, _, _, c5, _⟩ := h.cells
  have L1 : (Instr.lookup 56 (.map (some mb)) (.string tl) false).run Try.prog w = .ok (.pointer none) w := h.map.look
  have hft := fits_none w h (m : Int) (by omega) (by omega)
  rw [show fitE d (m : Int) = 0 from if_neg (fun h => by omega)] at hft
  have HH := Lib.hid h; have HLEN := Lib.hid hlen; have HR := Lib.hid hr; have HNO := Lib.hid hno; have HSEP := Lib.hid hsep
  clear h hlen hr hno hsep
  go_enter Try.func8, Try.ntmps8
  go_wp2_with fail
  refine (named_tail _).mono ?_
  rintro e w1 ⟨rfl, rfl⟩
  go_wp2_with fail
  refine hft.mono ?_
  rintro e w1 ⟨rfl, hbb⟩
  have HB1 := Lib.hid hbb
  have HD1 := Lib.hid (HH.out.up hbb)
  clear hft hbb L1 c5
  go_wp2_with fail
  refine (settled_nil w1 HD1.out).mono ?_
  rintro e w2 ⟨rfl, hd2, hf2⟩
  obtain ⟨_, _, _, _, _, c5, _⟩ := hd2.cells
  have HD2 := Lib.hid hd2
  have HF2 := Lib.hid hf2
  clear hd2 hf2 HD1
  go_wp2_with fail
  have HX : Hid (FMx w2 mb) := Lib.hid ⟨_, HD2.out.map⟩
  have HMP : ∀ (W : World) (g : Nat), FMx W mb → (Instr.mapUpdate 56 (.map (some mb)) (.string tl) (.pointer (some ⟨g, 0, Option.none⟩))).run Try.prog W = .ok () (putW W mb g) := fun W g h => putW_run h g
  have HRB : Hid (RdB w2 w2.heap.size A b) := Lib.hid (HR.out.fr HSEP.out ((Fr.of_below HB1.out).trans HF2.out))
  have HLK : Hid (∀ W, Below w2.heap.size w2 W → W.cell? ⟨db, 5, none⟩ = some (.map (some mb)) ∧ FMx W mb) := Lib.hid fun W h => HD2.out.look5 h
  have HLP : Hid (∀ W, Below w2.heap.size w2 W → ∀ g, (putW W mb g).cell? ⟨db, 5, none⟩ = some (.map (some mb)) ∧ FMx (putW W mb g) mb) := Lib.hid fun W h => HD2.out.look5p h
  have hb0 : Below w2.heap.size w2 w2.drew := belowDrewN (Below.refl _ _) 1
  have hb1 := lit_below w2
  have hb2 := lit_below2 w2
  go_region_held3 (fun w' => w'.cell? ⟨db, 5, none⟩ = some (.map (some mb)) ∧ FMx w' mb) (first | exact HLK.out _ hb0 | exact HLK.out _ hb1 | exact HLK.out _ hb2 | exact HLK.out _ hb6 | exact HLK.out _ (hb6.alloc hb6.size _) | exact HLP.out _ (hb6.alloc hb6.size _) _ | exact HLK.out _ hb5 | exact HLK.out _ (hb5.alloc hb5.size _))
    ((first
      | (refine step_append_litB (by rfl) (.tmp 36) (.tmp 37) (by rfl) w2 (by first | exact hb1 | exact hb2) _ (by rfl) (by first | exact lit_one _ | exact lit_two _ | exact lit_two' _) (by omega) A m c b (by rfl) HLEN.out HRB.out HNO.out (by omega) ?_; intro g5 k5 w5 hown5 hgrow5 hat5 hlt5 hb5)
      | (refine step_append_litB (by rfl) (.tmp 39) (.tmp 40) (by rfl) w2 (by first | exact hb5 | exact hb5.alloc hb5.size _) _ (by rfl) (by first | exact lit_one _ | exact (hgrow5.block _ (by first | (simp; done) | (simp; omega)) (by first | (simp; done) | (simp; omega))).trans (by first | exact lit_two _ | exact lit_two' _)) (by have := hb5.size; omega) A m c b (by rfl) HLEN.out HRB.out HNO.out (by omega) ?_; intro g6 k6 w6 hown6 hgrow6 hat6 hlt6 hb6)))
  all_goals
    have hsz5 := hgrow5.size
    have hne : g5 ≠ g6 := by simp at hat5 hat6 hsz5; omega
    have hown5' : OwnB w6 w2.heap.size (some ⟨g5, 0, Option.none⟩) m k5 b := by
      simp at hat5
      first
        | exact (hown5.alloc _).grown hgrow6 (fun a e h2 => by cases e; injection h2 with h2; simp only at h2; omega)
        | exact hown5.grown hgrow6 (fun a e h2 => by cases e; injection h2 with h2; simp only at h2; omega)
    obtain ⟨hd3, hf3⟩ := HD2.out.loaded hb6 hown5' hown6 hne (by omega) _ rfl
    have HD3 := Lib.hid hd3
    have HF3 := Lib.hid hf3
    clear hd3 hf3 hown5 hown6 hown5' hgrow5 hgrow6 hat5 hat6 hlt5 hlt6 hb0 hb1 hb2 HMP
    go_wp2_with fail
    go_ret
    exact ⟨rfl, _, _, HD3.out, (Fr.of_below HB1.out).trans (HF2.out.trans HF3.out)⟩
end
end Go.Proofs.Ytlplhllcohoeaaa
