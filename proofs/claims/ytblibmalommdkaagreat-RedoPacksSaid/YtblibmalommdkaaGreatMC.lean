/-
  MC: texts of one kind, one behind the other.
-/
import Derived.Test.YtblibmalommdkaaGreatMA
import Derived.Test.YtblibmalommdkaaGreatMB
import Derived.Test.YtblibmalommdkaaGreatRD
/-
  fits: whether a step's parts can be read behind what was written.
-/
namespace Go.Proofs.YtblibmalommdkaaGreat
open Go.RowKit
theorem map91 : MapTy Tryz.prog 115 3 4 := ⟨Tryz.underlying115, Tryz.underlying3, Tryz.underlying4, fun w => by kernel_rfl⟩
/-- The map of the blocks that were written. -/
abbrev Wr (w : World) (b n : Nat) (u : Int → Bool) : Prop := SetM w Tryz.prog 3 4 b n u
theorem SetM.up {w w' : World} {P : Program} {k e : TypeId} {b n : Nat} {u : Int → Bool} (h : SetM w P k e b n u) (hb : Below w.heap.size w w') : SetM w' P k e b n u :=
  h.kept (row := none) ⟨hb.os, hb.tape, hb.output, hb.size, fun k hk _ => hb.block k hk⟩ (by simp)
open Classical in
noncomputable def fitsB (size tail stash : Int) (wr : Int → Bool) (l : List S) : Bool := decide (∀ x ∈ l, PartP size tail stash wr x)
theorem fitsB_of {size tail stash : Int} {wr : Int → Bool} {l : List S} (h : ∀ x ∈ l, PartP size tail stash wr x) : fitsB size tail stash wr l = true := by unfold fitsB; simpa using h
theorem fitsB_not {size tail stash : Int} {wr : Int → Bool} {l : List S} (h : ¬ ∀ x ∈ l, PartP size tail stash wr x) : fitsB size tail stash wr l = false := by unfold fitsB; simpa using h
theorem fitsB_iff {size tail stash : Int} {wr : Int → Bool} {l : List S} : fitsB size tail stash wr l = true ↔ ∀ x ∈ l, PartP size tail stash wr x := by unfold fitsB; simp
/-- The three ends in memory. -/
structure EndsAt (w : World) (B g : Nat) (size tail stash : Int) : Prop where
  lt : g < B
  c0 : w.cell? ⟨g, 0, none⟩ = some (.int .i64 size)
  c1 : w.cell? ⟨g, 1, none⟩ = some (.int .i64 tail)
  c2 : w.cell? ⟨g, 2, none⟩ = some (.int .i64 stash)
def endOf (size tail stash src : Int) : Int := if src = 1 then tail else if src = 2 then stash else size
theorem EndsAt.below {w w' : World} {B B' g : Nat} {size tail stash : Int} (h : EndsAt w B g size tail stash) (hb : Below B' w w') (hB : B ≤ B') : EndsAt w' B g size tail stash := by
  have hl := h.lt
  exact ⟨hl, (hb.cell (p := ⟨g, 0, none⟩) (by show g < B'; omega)).trans h.c0, (hb.cell (p := ⟨g, 1, none⟩) (by show g < B'; omega)).trans h.c1, (hb.cell (p := ⟨g, 2, none⟩) (by show g < B'; omega)).trans h.c2⟩
theorem EndsAt.at {w : World} {B g : Nat} {size tail stash : Int} (h : EndsAt w B g size tail stash) {src : Int} (h0 : 0 ≤ src) (h2 : src ≤ 2) : w.cell? ⟨g, src.toNat, none⟩ = some (.int .i64 (endOf size tail stash src)) := by
  unfold endOf
  rcases (by omega : src = 0 ∨ src = 1 ∨ src = 2) with rfl | rfl | rfl
  · simpa using h.c0
  · simpa using h.c1
  · simpa using h.c2
set_option maxRecDepth 100000 in
set_option maxHeartbeats 2000000 in
theorem fits_any (blk : Int) (A : Option Addr) (len cap : Nat) (l : List S) (g mb N : Nat) (size tail stash : Int) (u : Int → Bool) (w : World) (hlen : l.length = len) (hr : Sc.Rd w w.heap.size A l) (hM : Sc.MayP l) (hm : len ≤ 9223372036854775807)
    (hE : EndsAt w w.heap.size g size tail stash) (hW : Wr w mb N u) (s0 : 0 ≤ size ∧ size ≤ 9223372036854775807) (t0 : 0 ≤ tail ∧ tail ≤ 9223372036854775807) (k0 : 0 ≤ stash ∧ stash ≤ 9223372036854775807) :
    Calls Tryz.prog 63 #[.agg #[.int .i64 blk, .slice A len cap], .slice (some ⟨g, 0, none⟩) 3 3, .map (some mb)] w fun e w' => e = .returned (.bool (fitsB size tail stash u l)) ∧ Below w.heap.size w w' := by
  have H := Lib.hid hlen; have HR := Lib.hid hr; have HM := Lib.hid hM; have HE := Lib.hid hE; have HW := Lib.hid hW
  have HL := Lib.hid (And.intro s0 (And.intro t0 k0))
  clear hlen hr hM hE hW s0 t0 k0
  go_enter Tryz.func63, Tryz.ntmps63
  go_wp2_with fail
  go_loopw [13] (fun i wr => ∃ k : Nat, k ≤ len ∧ i = .int .i64 k ∧ Hid (∀ x ∈ l.take k, PartP size tail stash u x) ∧ Hid (Below w.heap.size w wr)) (fun i _ => len - (intOf i).toNat)
  case atStart => exact ⟨0, Nat.zero_le _, rfl, Lib.hid (fun x hx => by simp at hx), Lib.hid ((Below.refl _ _).alloc (Nat.le_refl _) _)⟩
  case round =>
    obtain ⟨k, hk, rfl, HP, HB⟩ := hrel
    by_cases hlt : k < len
    · obtain ⟨s, hs⟩ := Sc.get_some l k (by rw [H.out]; exact hlt)
      obtain ⟨b, off, rfl, hbb, c0, c1, c2⟩ := (HR.out.below HB.out (Nat.le_refl _)) k s hs
      have hok := HM.out.1 s (List.mem_of_getElem? hs)
      have hin := List.mem_of_getElem? hs
      have hsz := HB.out.size
      have htk := Sc.take_snoc l k s hs
      obtain ⟨src, at_, slen⟩ := s
      unfold Sc.okS at hok
      simp only at *
      have HIN := Lib.hid hin
      have HOK := Lib.hid hok
      have HTK := Lib.hid htk
      have hb1 : Below wr.heap.size wr (wr.alloc (.cells #[.int .i64 src, .int .i64 at_, .int .i64 slen] 80)) := (Below.refl _ _).alloc (Nat.le_refl _) _
      have HB1 := Lib.hid (HB.out.trans (hb1.mono hsz))
      have v0 : (wr.alloc (.cells #[.int .i64 src, .int .i64 at_, .int .i64 slen] 80)).cell? ⟨wr.heap.size, 0, none⟩ = some (.int .i64 src) := cell_new wr _ 80 0
      have v1 : (wr.alloc (.cells #[.int .i64 src, .int .i64 at_, .int .i64 slen] 80)).cell? ⟨wr.heap.size, 1, none⟩ = some (.int .i64 at_) := cell_new wr _ 80 1
      have v2 : (wr.alloc (.cells #[.int .i64 src, .int .i64 at_, .int .i64 slen] 80)).cell? ⟨wr.heap.size, 2, none⟩ = some (.int .i64 slen) := cell_new wr _ 80 2
      have hE1 := HE.out.below HB1.out (Nat.le_refl _)
      have hW1 := HW.out.up HB1.out
      have hend : 0 ≤ endOf size tail stash src ∧ endOf size tail stash src ≤ 9223372036854775807 := by
        have := HL.out
        unfold endOf
        split
        · omega
        · split <;> omega
      have hat := hE1.at hok.1 hok.2.1
      have hidx : ((src.toNat : Nat) : Int) = src := Int.toNat_of_nonneg hok.1
      have hsrc3 : src < 3 := by omega
      have hsrc0 : 0 ≤ src := hok.1
      have hq64 : at_.tdiv 64 = at_ / 64 := tdiv64 _ hok.2.2.1
      have HWR := Lib.hid hW1
      clear hs hin hok htk hb1 hE1 hW1
      go_upto_region 4 with (fail)
      generalize hvb : wr.heap.size = vb at *
      generalize wr.alloc (.cells #[.int .i64 src, .int .i64 at_, .int .i64 slen] 80) = W at *
      have h0 : ∀ q : Qs W, q.1.cell? ⟨vb, 0, none⟩ = some (.int .i64 src) := fun q => q.cell v0
      have h1 : ∀ q : Qs W, q.1.cell? ⟨vb, 1, none⟩ = some (.int .i64 at_) := fun q => q.cell v1
      have h2 : ∀ q : Qs W, q.1.cell? ⟨vb, 2, none⟩ = some (.int .i64 slen) := fun q => q.cell v2
      have h3 : ∀ q : Qs W, q.1.cell? ⟨g, src.toNat, none⟩ = some (.int .i64 (endOf size tail stash src)) := fun q => q.cell hat
      have hC : ∀ q : Qs W, Calls Tryz.prog 77 #[.agg #[.int .i64 src, .int .i64 at_, .int .i64 slen], .int .i64 (endOf size tail stash src)] q.1 fun e w'' => e = .returned (.bool (decide (at_ ≤ endOf size tail stash src) && decide (slen ≤ endOf size tail stash src - at_))) ∧ ∃ q' : Qs W, w'' = q'.1 := fun q => q.calls (within_any ⟨src, at_, slen⟩ _ q.1 HOK.out hend.1 hend.2)
      generalize hin : (decide (at_ ≤ endOf size tail stash src) && decide (slen ≤ endOf size tail stash src - at_)) = wi at *
      refine wp_region_below (by kernel_rfl) (by kernel_rfl) ?_
      repeat (go_big_quiet_step (first | exact hC _))
      refine wpQuiet_nil ?_
      rintro _ ⟨q, rfl⟩
      have HWQ := Lib.hid (HWR.out.up q.2)
      have HBQ := Lib.hid (HB1.out.trans (q.2.mono HB1.out.size))
      have k0 := h0 q
      have k1 := h1 q
      have k2 := h2 q
      clear h0 h1 h2 h3 hC v0 v1 v2 hat HB1 HWR c0 c1 c2
      generalize q.1 = W2 at *
      cases wi
      · have HF : Hid (fitsB size tail stash u l = false) := Lib.hid (fitsB_not fun h => by
          have := h _ HIN.out
          unfold PartP at this
          simp only at this
          have e : (if src = 1 then tail else if src = 2 then stash else size) = endOf size tail stash src := rfl
          rw [e] at this
          have h1 : (decide (at_ ≤ endOf size tail stash src) && decide (slen ≤ endOf size tail stash src - at_)) = true := by simp [this.1, this.2.1]
          rw [h1] at hin
          cases hin)
        go_wp2_with fail
        go_ret
        exact ⟨Sc.ret_bool HF.out.symm, HBQ.out⟩
      · have hin2 : at_ ≤ endOf size tail stash src ∧ slen ≤ endOf size tail stash src - at_ := by simpa using hin
        clear hin
        have HIN2 := Lib.hid hin2
        have hok := HOK.out
        have hb64 : at_ / 64 * 64 ≤ at_ ∧ at_ < at_ / 64 * 64 + 64 := by omega
        have q0 : 0 ≤ at_ / 64 := by omega
        clear hin2 hend
        go_wp2_with fail
        go_loopw [9] (fun i wx => ∃ c : Nat, i = .int .i64 (at_ / 64 + c) ∧ at_ / 64 + c ≤ at_ + slen ∧ Hid (∀ b' : Int, at_ / 64 ≤ b' → b' < at_ / 64 + c → u b' = false) ∧ wx = W2) (fun i _ => (at_ + slen + 1 - intOf i).toNat)
        case atStart => exact ⟨0, by simp, by omega, Lib.hid (fun b' h1 h2 => by omega), rfl⟩
        case round =>
          obtain ⟨c, rfl, hc1, HU, rfl⟩ := hrel
          have w1 : IntKind.i64.wrap ((at_ / 64 + c) * 64) = (at_ / 64 + c) * 64 := IntWalk.i64_in _ (by omega)
          have w2 : IntKind.i64.wrap (at_ + slen) = at_ + slen := IntWalk.i64_in _ (by omega)
          have w3 : IntKind.i64.wrap (at_ / 64 + c + 1) = at_ / 64 + c + 1 := IntWalk.i64_in _ (by omega)
          by_cases hgo : src = 0 ∧ (at_ / 64 + c) * 64 < at_ + slen
          · obtain ⟨rfl, hlt2⟩ := hgo
            have hrun := HWQ.out.lookup map91 (j := at_ / 64 + c) (by unfold I64; omega)
            cases hub : u (at_ / 64 + c)
            · rw [hub] at hrun
              go_wp2_with fail
              go_roundw
              case measure => simp [intOf]; omega
              case rel => exact ⟨c + 1, by congr 1; omega, by omega, Lib.hid (fun b' h1 h2 => by
                by_cases h3 : b' = at_ / 64 + c
                · rw [h3]; exact hub
                · exact HU.out b' h1 (by omega)), trivial⟩
            · rw [hub] at hrun
              have HF : Hid (fitsB size tail stash u l = false) := Lib.hid (fitsB_not fun h => by
                have := (h _ HIN.out).2.2 rfl (at_ / 64 + c) (by simp only; omega) (by simpa using hlt2)
                rw [hub] at this
                cases this)
              clear hub
              go_wp2_with fail
              go_ret
              exact ⟨Sc.ret_bool HF.out.symm, HBQ.out⟩
          · have HPX : Hid (PartP size tail stash u ⟨src, at_, slen⟩) := Lib.hid ⟨HIN2.out.1, HIN2.out.2, fun e b' h1 h2 => by
              simp only at e h1 h2
              subst e
              refine HU.out b' h1 ?_
              by_cases h3 : b' < at_ / 64 + c
              · exact h3
              · exfalso
                exact hgo ⟨rfl, by omega⟩⟩
            have HNX : Hid (∀ x ∈ l.take (k + 1), PartP size tail stash u x) := Lib.hid (by
              rw [HTK.out]
              intro x hx
              rcases List.mem_append.1 hx with hx | hx
              · exact HP.out x hx
              · simp at hx
                rw [hx]
                exact HPX.out)
            have hstop : src = 0 → ¬ (at_ / 64 + c) * 64 < at_ + slen := fun e h => hgo ⟨e, h⟩
            clear hgo
            by_cases hs0 : src = 0
            · subst hs0
              have hst := hstop rfl
              clear hstop
              go_wp2_with fail
              go_roundw
              case measure => simp [intOf]; omega
              case rel => exact ⟨k + 1, by omega, by go_num, HNX, HBQ⟩
            · have hs1 : (src == 0) = false := by simpa using hs0
              clear hstop
              go_wp2_with fail
              go_roundw
              case measure => simp [intOf]; omega
              case rel => exact ⟨k + 1, by omega, by go_num, HNX, HBQ⟩
    · obtain rfl : k = len := by omega
      have HF : Hid (fitsB size tail stash u l = true) := Lib.hid (fitsB_of (by have := HP.out; rwa [List.take_of_length_le (Nat.le_of_eq H.out)] at this))
      clear hlt
      go_wp2_with fail
      go_ret
      exact ⟨Sc.ret_bool HF.out.symm, HB.out⟩
end Go.Proofs.YtblibmalommdkaaGreat

/-
  Plain laws on what a plan must be, for the walks of Check and of the reference's May; what stays in memory meanwhile.
-/
namespace Go.Proofs.YtblibmalommdkaaGreat
open Go.RowKit
theorem right_all (l : List R) : ∀ a, RightF a l → ∀ r ∈ l, r.2 ≤ lastTo a l := by
  induction l with
  | nil => intro a _ r hr; cases hr
  | cons s l ih =>
    intro a h r hr
    have h2 := tot_le l s.2 h.2.2
    rcases List.mem_cons.1 hr with rfl | hr
    · show r.2 ≤ lastTo r.2 l; omega
    · exact ih s.2 h.2.2 r hr
theorem right_last {l : List R} (h : Right l) {r : R} (hl : l[l.length - 1]? = some r) (size : Int) : (∀ s ∈ l, s.2 ≤ size) ↔ r.2 ≤ size := by
  have hm : r ∈ l := List.mem_of_getElem? hl
  refine ⟨fun hh => hh r hm, fun hh s hs => ?_⟩
  have h1 := right_all l (-1) h s hs
  have h2 : lastTo (-1) l = r.2 := by
    have hlt : l.length - 1 < l.length := (List.getElem?_eq_some_iff.1 hl).1
    have e : l = l.take (l.length - 1) ++ [r] := by
      have := Sc.take_snoc l (l.length - 1) r hl
      rw [show l.length - 1 + 1 = l.length by omega, List.take_length] at this
      exact this
    rw [e]
    exact lastTo_snoc _ _ _
  omega
theorem right_tot {l : List R} (h : Right l) : 0 ≤ tot l ∧ tot l ≤ lastTo (-1) l + 1 := by have := tot_le l (-1) h; omega
theorem right_tot_le {l : List R} (h : Right l) (size : Int) (hs : 0 ≤ size) (hall : ∀ s ∈ l, s.2 ≤ size) : tot l ≤ size := by
  -- the ranges begin at 0 or later
  have key : ∀ (l : List R) (a b : Int), RightF a l → (∀ s ∈ l, s.2 ≤ b) → a + 1 ≤ b → tot l ≤ b - (a + 1) := by
    intro l
    induction l with
    | nil => intro a b _ _ hab; simp [tot]; omega
    | cons r l ih =>
      intro a b h hb hab
      have h1 := h.1; have h2 := h.2.1
      have h3 := hb r (by simp)
      have h4 : tot (r :: l) = r.2 - r.1 + tot l := rfl
      rw [h4]
      by_cases hl : l = []
      · subst hl; simp [tot]; omega
      · have h5 : r.2 + 1 ≤ b := by
          cases l with
          | nil => exact absurd rfl hl
          | cons s l' =>
            have := h.2.2.1
            have h6 := h.2.2.2.1
            have := hb s (by simp)
            omega
        have := ih r.2 b h.2.2 (fun s hs => hb s (by simp [hs])) h5
        omega
  have := key l (-1) size h hall (by omega)
  omega
/-- What the blocks of a step were told beside. -/
theorem upd_eq (u : Int → Bool) (k : Int) : upd u k true k = true := upd_same u k true
theorem wrote_snoc (u : Int → Bool) (l : List Stp) (s : Stp) : wrote u (l ++ [s]) = upd (wrote u l) s.1 true := by unfold wrote; rw [List.foldl_append]; rfl
theorem fresh_append (l m : List Stp) : ∀ u, FreshP u (l ++ m) ↔ FreshP u l ∧ FreshP (wrote u l) m := by
  induction l with
  | nil => intro u; simp [FreshP, wrote]
  | cons s l ih => intro u; simp only [List.cons_append, FreshP, ih, wrote, List.foldl_cons, and_assoc]
theorem waves_append (n size tail st : Int) (l m : List (List Stp)) : ∀ u, WavesP n size tail st u (l ++ m) ↔ WavesP n size tail st u l ∧ WavesP n size tail st (l.foldl wrote u) m := by
  induction l with
  | nil => intro u; simp [WavesP]
  | cons s l ih => intro u; simp only [List.cons_append, WavesP, ih, List.foldl_cons, and_assoc]
/-- The waves from the k-th on decide. -/
theorem waves_next {n size tail st : Int} {W : List (List Stp)} {k : Nat} {v : List Stp} {u : Int → Bool} {P : Prop} (hv : W[k]? = some v) (h : P ↔ WavesP n size tail st u (W.drop k)) (hw : WaveP n size tail st u v) : P ↔ WavesP n size tail st (wrote u v) (W.drop (k + 1)) := by
  rw [h]
  have hk := (List.getElem?_eq_some_iff.1 hv)
  rw [List.drop_eq_getElem_cons hk.1, hk.2]
  exact ⟨fun h => h.2, fun h => ⟨hw, h⟩⟩
theorem waves_stop {n size tail st : Int} {W : List (List Stp)} {k : Nat} {v : List Stp} {u : Int → Bool} {P : Prop} (hv : W[k]? = some v) (h : P ↔ WavesP n size tail st u (W.drop k)) (hw : ¬ WaveP n size tail st u v) : ¬ P := by
  rw [h]
  have hk := (List.getElem?_eq_some_iff.1 hv)
  rw [List.drop_eq_getElem_cons hk.1, hk.2]
  exact fun h => hw h.1
theorem waves_end {n size tail st : Int} {W : List (List Stp)} {k : Nat} {u : Int → Bool} {P : Prop} (hk : W.length ≤ k) (h : P ↔ WavesP n size tail st u (W.drop k)) : P := by
  rw [h, List.drop_eq_nil_of_le hk]
  exact trivial
theorem fresh_next {v : List Stp} {j : Nat} {s : Stp} {u u' : Int → Bool} (hs : v[j]? = some s) (hu : u' = wrote u (v.take j)) (h : FreshP u v ↔ FreshP u' (v.drop j)) (hf : u' s.1 = false) : upd u' s.1 true = wrote u (v.take (j + 1)) ∧ (FreshP u v ↔ FreshP (upd u' s.1 true) (v.drop (j + 1))) := by
  have hk := (List.getElem?_eq_some_iff.1 hs)
  refine ⟨by rw [Sc.take_snoc v j s hs, wrote_snoc, hu], ?_⟩
  rw [h, List.drop_eq_getElem_cons hk.1, hk.2]
  exact ⟨fun h => h.2, fun h => ⟨hf, h⟩⟩
theorem fresh_stop {v : List Stp} {j : Nat} {s : Stp} {u u' : Int → Bool} (hs : v[j]? = some s) (h : FreshP u v ↔ FreshP u' (v.drop j)) (hf : u' s.1 = true) : ¬ FreshP u v := by
  have hk := (List.getElem?_eq_some_iff.1 hs)
  rw [h, List.drop_eq_getElem_cons hk.1, hk.2]
  intro h2
  have := h2.1
  rw [hf] at this
  cases this
theorem fresh_end {v : List Stp} {j : Nat} {u u' : Int → Bool} (hj : v.length ≤ j) (h : FreshP u v ↔ FreshP u' (v.drop j)) : FreshP u v := by
  rw [h, List.drop_eq_nil_of_le hj]
  exact trivial
open Classical in
noncomputable def checkV (p : Pln) (size tail : Int) : Int := if size < 0 ∨ tail < 0 then 1 else if PlanP p size tail then 0 else 4
theorem checkV_arg {p : Pln} {size tail : Int} (h : size < 0 ∨ tail < 0) : checkV p size tail = 1 := if_pos h
theorem checkV_ok {p : Pln} {size tail : Int} (h : ¬ (size < 0 ∨ tail < 0)) (hp : PlanP p size tail) : checkV p size tail = 0 := by unfold checkV; rw [if_neg h, if_pos hp]
theorem checkV_bad {p : Pln} {size tail : Int} (h : ¬ (size < 0 ∨ tail < 0)) (hp : ¬ PlanP p size tail) : checkV p size tail = 4 := by unfold checkV; rw [if_neg h, if_neg hp]
/-- What Check has in memory beside the plan: its box, the ends, the map. -/
structure Ck (w0 w : World) (p : PlV) (size tail st : Int) (ge mb N : Nat) (u : Int → Bool) : Prop where
  low : Below w0.heap.size w0 w
  box : w.heap[w0.heap.size]? = some (.cells p.cells 30 (0, 0))
  ends : w.heap[ge]? = some (.cells #[.int .i64 size, .int .i64 tail, .int .i64 st] 116 (0, 0))
  map : Wr w mb N u
  mbl : w0.heap.size < mb
theorem Ck.up {w0 w w' : World} {p : PlV} {size tail st : Int} {ge mb N : Nat} {u : Int → Bool} (h : Ck w0 w p size tail st ge mb N u) (hb : Below w.heap.size w w') : Ck w0 w' p size tail st ge mb N u :=
  ⟨h.low.trans (hb.mono h.low.size), (hb.block _ (Array.getElem?_eq_some_iff.1 h.box).1).trans h.box, (hb.block _ (Array.getElem?_eq_some_iff.1 h.ends).1).trans h.ends, h.map.up hb, h.mbl⟩
theorem Ck.ne {w0 w : World} {p : PlV} {size tail st : Int} {ge mb N : Nat} {u : Int → Bool} (h : Ck w0 w p size tail st ge mb N u) : ge ≠ mb := fun e => by
  obtain ⟨D, ⟨es, c, hb, _⟩, _⟩ := h.map
  have h2 := h.ends
  rw [e, hb] at h2
  cases h2
theorem Ck.put {w0 w w' : World} {p : PlV} {size tail st : Int} {ge mb N N' : Nat} {u u' : Int → Bool} (h : Ck w0 w p size tail st ge mb N u) (hm : Wr w' mb N' u') (hg : w.grownBy w' (some mb)) : Ck w0 w' p size tail st ge mb N' u' :=
  ⟨h.low.grown hg h.low.size (fun k e => by injection e with e; have := h.mbl; omega), (hg.block _ (Array.getElem?_eq_some_iff.1 h.box).1 (fun e => by injection e with e; have := h.mbl; omega)).trans h.box, (hg.block _ (Array.getElem?_eq_some_iff.1 h.ends).1 (fun e => by injection e with e; exact h.ne e)).trans h.ends, hm, h.mbl⟩
theorem Ck.endsAt {w0 w : World} {p : PlV} {size tail st : Int} {ge mb N : Nat} {u : Int → Bool} (h : Ck w0 w p size tail st ge mb N u) : EndsAt w w.heap.size ge size tail st :=
  ⟨(Array.getElem?_eq_some_iff.1 h.ends).1, cell_of_row _ _ 0 _ 116 (0, 0) h.ends, cell_of_row _ _ 1 _ 116 (0, 0) h.ends, cell_of_row _ _ 2 _ 116 (0, 0) h.ends⟩
theorem Ck.cells {w0 w : World} {p : PlV} {size tail st : Int} {ge mb N : Nat} {u : Int → Bool} (h : Ck w0 w p size tail st ge mb N u) : w.cell? ⟨w0.heap.size, 0, none⟩ = some (.int .i64 p.size) ∧ w.cell? ⟨w0.heap.size, 1, none⟩ = some (.slice p.SA p.stash.length p.sc) ∧ w.cell? ⟨w0.heap.size, 2, none⟩ = some (.slice p.WA p.waves.length p.wc) :=
  ⟨cell_of_row _ _ 0 _ 30 (0, 0) h.box, cell_of_row _ _ 1 _ 30 (0, 0) h.box, cell_of_row _ _ 2 _ 30 (0, 0) h.box⟩
end Go.Proofs.YtblibmalommdkaaGreat
