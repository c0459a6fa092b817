/-
  What disk.Cut leaves of a file that is as long at least.
-/
import Derived.Test.YtlplhllcohoeaaaTl
namespace Go.Proofs.Ytlplhllcohoeaaa
open Go.RowKit
attribute [local go_sem ↓] append_told
section
variable {db mb : Nat} {d : Dv} {lo : Int} {N : Nat} {S : Nat → Prop} {F : Option Nat} {Ap : Option Addr} {np cp : Nat} {ps : List (Int × Value)}
/-- A cut more is pending. -/
theorem Dk.cutp {wc w6 : World} {S0 : Nat → Prop} {Ap2 : Option Addr} {np2 cp2 : Nat} {ps2 : List (Int × Value)} (h : Dk wc db mb d lo N S0 F Ap2 np2 cp2 ps2) {p : Nat} (hp : (p : Int) ≤ 1099511627776) (hlo : lo ≤ p)
    {g6 c6 : Nat} (hown : w6.ownsRow 0 74 3 (.slice (some ⟨g6, 0, none⟩) (np2 + 1) c6) (np2 + 1) (pcells ps2 ++ [.string tl, .int .i64 (p : Int), .slice none 0 0])) (hgrow : (wc.alloc (.cells #[.string tl, .int .i64 (p : Int), .slice none 0 0] 74)).grownBy w6 (Value.slice Ap2 np2 cp2).ownBlock)
    (hat : (Value.slice Ap2 np2 cp2).ownBlock = some g6 ∨ g6 = wc.heap.size + 1) (hlt6 : g6 < w6.heap.size) {N' : Nat} (hN : N ≤ N') (hn : np2 + 1 ≤ N') (w7 : World) (hw7 : w7 = w6.setCell ⟨db, 6, none⟩ (.slice (some ⟨g6, 0, none⟩) (np2 + 1) c6)) :
    Dk w7 db mb d lo N' (Sx S0 wc w7) F (some ⟨g6, 0, none⟩) (np2 + 1) c6 (ps2 ++ [((p : Int), .slice none 0 0)]) ∧ Only wc w7 S0 := by
  have hs6 := hgrow.size
  simp at hs6
  have hs7 : w7.heap.size = w6.heap.size := by subst hw7; simp
  have hrow : ∀ x, (Value.slice Ap2 np2 cp2).ownBlock = some x → inA Ap2 x := fun x e => own_in.1 e
  have hO6 : Only wc w6 (inA Ap2) := (Only.of_below ((Below.refl _ _).alloc (Nat.le_refl _) _)).trans ((Only.of_grown hgrow).mono fun g _ e => hrow g e.symm)
  have hS : ∀ g, S0 g → Sx S0 wc w7 g := fun g hg => .inl hg
  have hty : ∀ x, inA Ap2 x → ∃ cur, wc.heap[x]? = some (.cells cur 74 (0, 0)) := fun x hx => by
    cases Ap2 with
    | none => cases hx
    | some a => injection hx with hx; subst hx; exact row_ty h.pend.row
  subst hw7
  refine h.pended hO6 hS (fun g hg => ?_) ⟨by simpa [pcells] using hown, by have := h.pend.len; simp [this], ?_, fun a e => ?_⟩ ?_ hN hn
  · rcases hg with hg | hg
    · have := h.lt g hg; omega
    · have := hg.2; omega
  · intro q hq
    rcases List.mem_append.1 hq with hq | hq
    · refine (h.pend.all q hq).keepP hO6 hS (fun a n c hv hx => ?_)
      obtain ⟨cu, hc⟩ := (h.pend.all q hq).ty hv
      obtain ⟨cu2, hc2⟩ := hty _ hx
      exact ty_ne hc hc2 (by decide) rfl
    · simp at hq
      subst hq
      exact ⟨hlo, by simp only; omega, hp, .inl rfl⟩
  · cases e
    rcases hat with hx | hx
    · have hi := hrow _ hx
      cases Ap2 with
      | none => cases hi
      | some a =>
        injection hi with hi
        have hh := hS a.block (h.pend.sp a rfl)
        rw [hi] at hh
        exact hh
    · exact .inr ⟨by show wc.heap.size ≤ g6; omega, by show g6 < _; omega⟩
  · intro An hAn hap q hq
    rcases List.mem_append.1 hq with hq | hq
    · exact hap q hq
    · simp at hq
      subst hq
      intro a n c b hv e
      cases hv
set_option maxRecDepth 40000 in
set_option maxHeartbeats 1000000 in
theorem Cut_file (w : World) {fb : Nat} (h : Dk w db mb d lo N S (some fb) Ap np cp ps) (hd : d.down = false) (f : Fl) (hdf : d.f = some f) (n : Nat) (hn : n ≤ f.now.length) (hN : N + 3 ≤ 1099511627776) (hlo : lo ≤ n) (ha : ¬ (d.armed = true ∧ d.left = 0)) :
    Calls Try.prog 27 #[.pointer (some ⟨db, 0, none⟩), .string tl, .int .i64 n] w fun e w' => e = .returned (.int .i64 0) ∧
      (∃ S' Ap' np' cp' ps', Dk w' db mb { d with left := d.left - 1, chg := d.chg + 1, f := some ⟨f.now.take n, f.safe, f.sure⟩ } lo (N + 3) S' (some fb) Ap' np' cp' ps' ∧ Fr w w' S S') := by
  obtain ⟨i7, hi7, hy0, hy1, hy2⟩ := info_parts info74
  have hm := may_file w true h hd
  have hch := change_on w h (by omega) ha
  obtain ⟨An0, cn0, As0, cs0, hf0, _⟩ : ∃ An cn As cs, FileAt w S fb f An cn As cs ∧ True := by
    obtain ⟨f', An, cn, As, cs, q1, hf, _⟩ := h.fat
    obtain rfl : f' = f := by rw [hdf] at q1; injection q1 with q1; exact q1.symm
    exact ⟨An, cn, As, cs, hf, trivial⟩
  obtain ⟨f0, _, _⟩ := hf0.cells
  have hln := hf0.ln
  have HCH := Lib.hid hch
  have HDF := Lib.hid hdf
  have HNL : Hid (n ≤ f.now.length) := Lib.hid hn
  clear h hf0 hch hdf
  have g1 : ¬ ((n : Int) < 0) := by omega
  have g2 : ¬ ((f.now.length : Int) < (n : Int)) := by omega
  generalize hnl : f.now.length = nl at *
  have HNE := Lib.hid hnl
  clear hnl
  go_enter Try.func27, Try.ntmps27
  go_wp2_with fail
  refine hm.mono ?_
  rintro e w1 ⟨rfl, rfl⟩
  clear hm
  go_wp2_with fail
  refine HCH.out.mono ?_
  rintro e w2 ⟨rfl, hd2, hf2⟩
  obtain ⟨f', An, cn, As, cs, q1, hff, hap⟩ := hd2.fat
  obtain rfl : f' = f := by
    have h1 : d.f = some f' := q1
    rw [HDF.out] at h1; injection h1 with h1; exact h1.symm
  obtain ⟨k0, _, _⟩ := hff.cells
  have kz := hff.froz 0
  rw [HNE.out] at k0
  have hcap := hff.now.cap
  rw [HNE.out] at hcap
  have hsh : OwnB w2 0 An n cn (f'.now.take n) := by
    have h1 := hff.now
    exact h1.shrink n (by rw [HNE.out]; exact hn)
  obtain ⟨hd3, ho3⟩ := hd2.laid HDF.out hff hap (Fr.refl w2 (inA An)) hsh (by rw [List.length_take]; omega)
  obtain ⟨w3, hw3⟩ : ∃ w3, w3 = w2.setCell ⟨fb, 0, none⟩ (.slice An n cn) := ⟨_, rfl⟩
  rw [← hw3] at hd3 ho3
  obtain ⟨_, _, _, _, _, _, c6⟩ := hd2.cells
  have z6 := hd2.froz 6
  have hdb2 := hd2.lt _ hd2.sd
  have HW3 := Lib.hid hw3
  have HD3 := Lib.hid hd3
  have HF3 : Hid (Fr w w3 S (Sx S w2 w3)) := Lib.hid (hf2.trans ho3.fr)
  have hnp3 : np ≤ N + 1 := hd3.pn
  have HROW : Hid (w3.ownsRow 0 74 3 (.slice Ap np cp) np (pcells ps)) := Lib.hid hd3.pend.row
  have HDB6 : Hid (some db ≠ (Value.slice Ap np cp).ownBlock) := Lib.hid (fun e => by
    cases Ap with
    | none => cases e
    | some a =>
      obtain ⟨cur, hc⟩ := row_ty HD3.out.pend.row
      have e2 : db = a.block := by simpa [Value.ownBlock] using e
      exact ty_ne hc HD3.out.head (by decide) e2.symm)
  have hle : (n : Int) ≤ (cn : Int) := by omega
  clear hd2 hf2 hff hap hsh hd3 ho3 hw3 q1 HCH
  have HROW2 : Hid ((w2.setCell ⟨fb, 0, none⟩ (.slice An n cn)).ownsRow 0 74 3 (.slice Ap np cp) np (pcells ps)) := Lib.hid (by rw [← HW3.out]; exact HROW.out)
  obtain ⟨g6, k6, w6, hrun0, hown6, hgrow6, hat6, hlt6⟩ := run_append_lies (P := Try.prog) ((w2.setCell ⟨fb, 0, none⟩ (.slice An n cn)).alloc (.cells #[.string tl, .int .i64 n, .slice Option.none 0 0] 74)) 57 57 0 74 i7 _ 3 48 Try.underlying57 hi7 hy0 hy1 hy2 rfl (by decide) (.slice Ap np cp) np (pcells ps) (HROW2.out.alloc _) ⟨w2.heap.size, 0, none⟩ 1 1 [.string tl, .int .i64 n, .slice Option.none 0 0] rfl
    (by have h1 := World.news_of_block (heap_alloc_new (w2.setCell ⟨fb, 0, none⟩ (.slice An n cn)) (.cells #[.string tl, .int .i64 n, .slice Option.none 0 0] 74)); simpa using h1) (by simp [Value.oneCell']) (by omega) (by unfold maxLen; omega) (by omega) (Nat.zero_le _) (w2.heap.size + 1) (by simp)
  have hrun : (appTold #[57, 57] 57 #[.slice Ap np cp, .slice (some ⟨w2.heap.size, 0, none⟩) 1 1]).run Try.prog ((w2.setCell ⟨fb, 0, none⟩ (.slice An n cn)).alloc (.cells #[.string tl, .int .i64 n, .slice Option.none 0 0] 74)) = .ok (.slice (some ⟨g6, 0, none⟩) (np + 1) k6) w6 := hrun0
  have c66 : w6.cell? ⟨db, 6, none⟩ = some (.slice Ap np cp) := (hgrow6.cell_far ⟨db, 6, Option.none⟩ (by simp; omega) HDB6.out).trans ((World.cell?_alloc_lt _ _ _ (by simpa using hdb2)).trans ((World.cell?_setCell_other _ _ _ _ (by intro hh; injection hh with _ h2 _; cases h2)).trans c6))
  have z66 : w6.frozen? ⟨db, 6, none⟩ = false := by
    rw [hgrow6.frozen_far ⟨db, 6, Option.none⟩ (by simp; omega) HDB6.out]
    have h1 := ((Below.refl (w2.setCell ⟨fb, 0, none⟩ (.slice An n cn)).heap.size (w2.setCell ⟨fb, 0, none⟩ (.slice An n cn))).alloc (Nat.le_refl _) (.cells #[.string tl, .int .i64 n, .slice Option.none 0 0] 74)).frozen (p := ⟨db, 6, Option.none⟩) (by simpa using hdb2)
    rw [h1, World.frozen?_setCell]
    exact z6
  obtain ⟨w7, hw7⟩ : ∃ w7, w7 = w6.setCell ⟨db, 6, none⟩ (.slice (some ⟨g6, 0, none⟩) (np + 1) k6) := ⟨_, rfl⟩
  obtain ⟨hd7, ho7⟩ := HD3.out.cutp (by omega) hlo hown6 (by rw [HW3.out]; exact hgrow6) (by rcases hat6 with h | h; exact .inl h; exact .inr (by rw [h, HW3.out]; simp)) hlt6 (N' := N + 3) (by omega) (by omega) w7 hw7
  have HD7 := Lib.hid hd7
  have HF7 := Lib.hid (HF3.out.trans ho7.fr)
  have HW7 := Lib.hid hw7
  clear hrun0 hown6 hgrow6 hat6 hlt6 hd7 ho7 hw7 HROW2 HROW HDB6 HD3 HF3 HW3
  go_wp2_with fail
  rw [← HW7.out]
  go_ret
  exact ⟨rfl, _, _, _, _, _, HD7.out, HF7.out⟩
end
end Go.Proofs.Ytlplhllcohoeaaa
