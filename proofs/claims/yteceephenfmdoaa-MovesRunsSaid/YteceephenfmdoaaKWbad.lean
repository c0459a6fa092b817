/-
  Make: the refusals.
-/
import Derived.Test.YteceephenfmdoaaKWmake
namespace Go.Proofs.Yteceephenfmdoaa
open Go.RowKit
/-- A scrap that no target may have. -/
def badS (size : Int) (s : S) : Prop := s.src = 2 ∨ (s.src = 0 ∧ size < s.at_ + s.len)
open Classical in
/-- What Make answers. -/
noncomputable def makeE (l : List S) (size most : Int) : Int := if ¬ Sc.MayP l ∨ size < 0 ∨ 1048576 < size ∨ most < 1 ∨ 64 < most then 1 else if ∃ s ∈ l, badS size s then 1 else if 1048576 < Sc.tot l then 10 else 0
theorem zero_end {w wr : World} {pb : Nat} (hx : wr.heap[pb]? = some (.cells #[.int .i64 0, .slice none 0 0, .slice none 0 0] 32 (0, 0))) (hb : Below pb w wr) :
    (((wr.setCell ⟨pb, 0, none⟩ (.int .i64 0)).setCell ⟨pb, 1, none⟩ (.slice none 0 0)).setCell ⟨pb, 2, none⟩ (.slice none 0 0)).heap[pb]? = some (.cells #[.int .i64 0, .slice none 0 0, .slice none 0 0] 32 (0, 0)) ∧
    Below pb w (((wr.setCell ⟨pb, 0, none⟩ (.int .i64 0)).setCell ⟨pb, 1, none⟩ (.slice none 0 0)).setCell ⟨pb, 2, none⟩ (.slice none 0 0)) :=
  ⟨three_heap hx _ _ _, ((hb.setCell (p := ⟨pb, 0, none⟩) (Nat.le_refl _) _).setCell (p := ⟨pb, 1, none⟩) (Nat.le_refl _) _).setCell (p := ⟨pb, 2, none⟩) (Nat.le_refl _) _⟩
def BadR (w : World) (E : Int) (e : Ending) (w' : World) : Prop := e = .returned (.tuple #[.agg #[.int .i64 0, .slice none 0 0, .slice none 0 0], .int .i64 E]) ∧ Below w.heap.size w w'
set_option maxRecDepth 100000 in
set_option maxHeartbeats 4000000 in
theorem make_bad (A : Option Addr) (len cap : Nat) (l : List S) (size most : Int) (w : World) (hlen : l.length = len) (hr : Sc.Rd w w.heap.size A l) (hl9 : len ≤ 9223372036854775807) (hs : I64 size) (hm : I64 most) (hE : makeE l size most ≠ 0) :
    Calls Try.prog 15 #[.slice A len cap, .int .i64 size, .int .i64 most] w fun e w' => BadR w (makeE l size most) e w' := by
  have HL := Lib.hid hlen
  have HR := Lib.hid hr
  unfold I64 at hs hm
  have hb1 : Below w.heap.size w (w.alloc (.cells #[.int .i64 0, .slice none 0 0, .slice none 0 0] 32)) := (Below.refl _ _).alloc (Nat.le_refl _) _
  have HX1 : Hid ((w.alloc (.cells #[.int .i64 0, .slice none 0 0, .slice none 0 0] 32)).heap[w.heap.size]? = some (.cells #[.int .i64 0, .slice none 0 0, .slice none 0 0] 32 (0, 0))) := Lib.hid (heap_alloc_new w _)
  have HB1 := Lib.hid hb1
  clear hlen hr hb1
  by_cases hM : Sc.MayP l
  · have HM := Lib.hid hM
    have HMB := Lib.hid (Sc.mayB_of hM)
    clear hM
    by_cases hg : size < 0 ∨ 1048576 < size ∨ most < 1 ∨ 64 < most
    · have HV : Hid (makeE l size most = 1) := Lib.hid (if_pos (.inr hg))
      clear hE
      rcases hg with h1 | h1 | h1 | h1
      all_goals
        go_enter Try.func15, Try.ntmps15
        go_wp2_with fail
        generalize w.alloc (.cells #[.int .i64 0, .slice none 0 0, .slice none 0 0] 32) = W1 at *
        refine (Sc.may_any A len cap W1 l HL.out (HR.out.up HB1.out) hl9).mono ?_
        rw [HMB.out]
        rintro e w2 ⟨rfl, hb2⟩
        have HB2 := Lib.hid (HB1.out.trans (hb2.mono HB1.out.size))
        have hx2 := (hb2.block _ (Array.getElem?_eq_some_iff.1 HX1.out).1).trans HX1.out
        obtain ⟨hh, hbel⟩ := zero_end hx2 HB2.out
        have HH := Lib.hid hh; have HBE := Lib.hid hbel
        have p0 : w2.cell? ⟨w.heap.size, 0, none⟩ = some (.int .i64 0) := cell_of_row _ _ 0 _ 32 (0, 0) hx2
        have p1 : w2.cell? ⟨w.heap.size, 1, none⟩ = some (.slice none 0 0) := cell_of_row _ _ 1 _ 32 (0, 0) hx2
        have p2 : w2.cell? ⟨w.heap.size, 2, none⟩ = some (.slice none 0 0) := cell_of_row _ _ 2 _ 32 (0, 0) hx2
        have z0 : w2.frozen? ⟨w.heap.size, 0, none⟩ = false := frozen_of_row _ _ 0 _ _ hx2
        have z1 : w2.frozen? ⟨w.heap.size, 1, none⟩ = false := frozen_of_row _ _ 1 _ _ hx2
        have z2 : w2.frozen? ⟨w.heap.size, 2, none⟩ = false := frozen_of_row _ _ 2 _ _ hx2
        clear hb2 HB1 HX1 HMB hx2 hh hbel
        go_wp2_with fail
      all_goals
        generalize (((w2.setCell ⟨w.heap.size, 0, none⟩ (.int .i64 0)).setCell ⟨w.heap.size, 1, none⟩ (.slice none 0 0)).setCell ⟨w.heap.size, 2, none⟩ (.slice none 0 0)) = wf at *
        have e0 : wf.cell? ⟨w.heap.size, 0, none⟩ = some (.int .i64 0) := cell_of_row _ _ 0 _ 32 (0, 0) HH.out
        have e1 : wf.cell? ⟨w.heap.size, 1, none⟩ = some (.slice none 0 0) := cell_of_row _ _ 1 _ 32 (0, 0) HH.out
        have e2 : wf.cell? ⟨w.heap.size, 2, none⟩ = some (.slice none 0 0) := cell_of_row _ _ 2 _ 32 (0, 0) HH.out
        refine bodyPost_ret (v := .tuple #[.agg #[.int .i64 0, .slice none 0 0, .slice none 0 0], .int .i64 1]) (by simp [results, Try.results15, go_sem, e0, e1, e2]) rfl ⟨by rw [HV.out], HBE.out⟩
    · have m1 : 0 ≤ size ∧ size ≤ 1048576 := by omega
      have m2 : 1 ≤ most ∧ most ≤ 64 := by omega
      clear hs hm
      go_enter Try.func15, Try.ntmps15
      go_wp2_with fail
      generalize w.alloc (.cells #[.int .i64 0, .slice none 0 0, .slice none 0 0] 32) = W1 at *
      refine (Sc.may_any A len cap W1 l HL.out (HR.out.up HB1.out) hl9).mono ?_
      rw [HMB.out]
      rintro e w2 ⟨rfl, hb2⟩
      have HB2 := Lib.hid (HB1.out.trans (hb2.mono HB1.out.size))
      have hx2 := (hb2.block _ (Array.getElem?_eq_some_iff.1 HX1.out).1).trans HX1.out
      have HX2 := Lib.hid hx2
      clear hb2 HB1 HX1 HMB hx2
      generalize hpb : w.heap.size = pb at *
      have HPB := Lib.hid hpb
      clear hpb
      go_wp2_with fail
      go_loopw [45] (fun i wr => ∃ k : Nat, k ≤ len ∧ i = .int .i64 k ∧ Hid (Below pb w wr ∧ wr.heap[pb]? = some (.cells #[.int .i64 0, .slice none 0 0, .slice none 0 0] 32 (0, 0)) ∧ ∀ s ∈ l.take k, ¬ badS size s)) (fun i _ => len - (intOf i).toNat)
      case atStart => exact ⟨0, Nat.zero_le _, rfl, Lib.hid ⟨HB2.out, HX2.out, fun s hs => by simp at hs⟩⟩
      case round =>
        clear HB2 HX2
        obtain ⟨k, hk, rfl, HI⟩ := hrel
        have hszr : pb ≤ wr.heap.size := by have := HI.out.1.size; have := HPB.out; omega
        by_cases hlt : k < len
        · obtain ⟨x, hx⟩ := get_some l k (by have := HL.out; omega)
          obtain ⟨b, off, rfl, hbb, c0, c1, c2⟩ := (HR.out.below HI.out.1 (by have := HPB.out; omega)) k x hx
          have hin := List.mem_of_getElem? hx
          have hxk := HM.out.1 x hin
          have HXK := Lib.hid hxk
          unfold Sc.okS at hxk
          have hb5 : Below wr.heap.size wr (wr.alloc (.cells #[.int .i64 x.src, .int .i64 x.at_, .int .i64 x.len] 48)) := (Below.refl _ _).alloc (Nat.le_refl _) _
          have HX5 := Lib.hid ((hb5.block _ (Array.getElem?_eq_some_iff.1 HI.out.2.1).1).trans HI.out.2.1)
          have HB5 := Lib.hid (HI.out.1.trans (hb5.mono hszr))
          have HGD : Hid (¬ badS size x → ∀ s ∈ l.take (k + 1), ¬ badS size s) := Lib.hid (fun h s hs => by
            rw [Sc.take_snoc l k x hx] at hs
            rcases List.mem_append.1 hs with hs | hs
            · exact HI.out.2.2 s hs
            · simp at hs; subst hs; exact h)
          have HBD : Hid (badS size x → makeE l size most = 1) := Lib.hid (fun h => by
            unfold makeE
            rw [if_neg (by
              rintro (h1 | h1)
              · exact h1 HM.out
              · omega), if_pos ⟨x, hin, h⟩])
          clear hx hin hb5 HI
          by_cases h2 : x.src = 2
          · have HV := Lib.hid (HBD.out (.inl h2))
            have f2 : (x.src == 2) = true := by simpa using h2
            obtain ⟨hh, hbel⟩ := zero_end HX5.out HB5.out
            have HH := Lib.hid hh; have HBE := Lib.hid hbel
            have p0 : (wr.alloc (.cells #[.int .i64 x.src, .int .i64 x.at_, .int .i64 x.len] 48)).cell? ⟨pb, 0, none⟩ = some (.int .i64 0) := cell_of_row _ _ 0 _ 32 (0, 0) HX5.out
            have p1 : (wr.alloc (.cells #[.int .i64 x.src, .int .i64 x.at_, .int .i64 x.len] 48)).cell? ⟨pb, 1, none⟩ = some (.slice none 0 0) := cell_of_row _ _ 1 _ 32 (0, 0) HX5.out
            have p2 : (wr.alloc (.cells #[.int .i64 x.src, .int .i64 x.at_, .int .i64 x.len] 48)).cell? ⟨pb, 2, none⟩ = some (.slice none 0 0) := cell_of_row _ _ 2 _ 32 (0, 0) HX5.out
            have z0 : (wr.alloc (.cells #[.int .i64 x.src, .int .i64 x.at_, .int .i64 x.len] 48)).frozen? ⟨pb, 0, none⟩ = false := frozen_of_row _ _ 0 _ _ HX5.out
            have z1 : (wr.alloc (.cells #[.int .i64 x.src, .int .i64 x.at_, .int .i64 x.len] 48)).frozen? ⟨pb, 1, none⟩ = false := frozen_of_row _ _ 1 _ _ HX5.out
            have z2 : (wr.alloc (.cells #[.int .i64 x.src, .int .i64 x.at_, .int .i64 x.len] 48)).frozen? ⟨pb, 2, none⟩ = false := frozen_of_row _ _ 2 _ _ HX5.out
            clear hh hbel HX5 h2
            go_wp2_with fail
            generalize ((((wr.alloc (.cells #[.int .i64 x.src, .int .i64 x.at_, .int .i64 x.len] 48)).setCell ⟨pb, 0, none⟩ (.int .i64 0)).setCell ⟨pb, 1, none⟩ (.slice none 0 0)).setCell ⟨pb, 2, none⟩ (.slice none 0 0)) = wf at *
            have e0 : wf.cell? ⟨pb, 0, none⟩ = some (.int .i64 0) := cell_of_row _ _ 0 _ 32 (0, 0) HH.out
            have e1 : wf.cell? ⟨pb, 1, none⟩ = some (.slice none 0 0) := cell_of_row _ _ 1 _ 32 (0, 0) HH.out
            have e2 : wf.cell? ⟨pb, 2, none⟩ = some (.slice none 0 0) := cell_of_row _ _ 2 _ 32 (0, 0) HH.out
            refine bodyPost_ret (v := .tuple #[.agg #[.int .i64 0, .slice none 0 0, .slice none 0 0], .int .i64 1]) (by simp [results, Try.results15, go_sem, e0, e1, e2]) rfl ?_
            obtain rfl := HPB.out
            exact ⟨by rw [HV.out], HBE.out⟩
          · have f2 : (x.src == 2) = false := by simpa using h2
            by_cases h0 : x.src = 0
            · have f0 : (x.src == 0) = true := by simpa using h0
              have HWI : Hid ((decide (x.at_ ≤ size) && decide (x.len ≤ size - x.at_)) = decide (x.at_ + x.len ≤ size)) := Lib.hid (by
                by_cases h3 : x.at_ + x.len ≤ size
                · have h1 : x.at_ ≤ size := by omega
                  have h2 : x.len ≤ size - x.at_ := by omega
                  simp [h1, h2, h3]
                · have h2 : ¬ x.len ≤ size - x.at_ := by omega
                  simp [h2, h3])
              have HSR := Lib.hid h0
              clear h2 h0
              go_wp2_with fail
              refine (within_any x size _ HXK.out m1.1 (by omega)).mono ?_
              rw [HWI.out]
              rintro e w6 ⟨rfl, hb6⟩
              have HX6 := Lib.hid ((hb6.block _ (Array.getElem?_eq_some_iff.1 HX5.out).1).trans HX5.out)
              have HB6 := Lib.hid (HB5.out.trans (hb6.mono (by simp; omega)))
              clear hb6 HX5 HB5
              by_cases h3 : x.at_ + x.len ≤ size
              · have HG2 := Lib.hid (HGD.out (by unfold badS; have := HSR.out; omega))
                have d3 : decide (x.at_ + x.len ≤ size) = true := decide_eq_true h3
                rw [d3]
                clear d3 h3
                go_wp2_with fail
                go_roundw
                case measure => simp [intOf]; omega
                case rel => exact ⟨k + 1, by omega, by go_num, Lib.hid ⟨HB6.out, HX6.out, HG2.out⟩⟩
              · have HV := Lib.hid (HBD.out (.inr ⟨HSR.out, by omega⟩))
                have d3 : decide (x.at_ + x.len ≤ size) = false := decide_eq_false h3
                rw [d3]
                obtain ⟨hh, hbel⟩ := zero_end HX6.out HB6.out
                have HH := Lib.hid hh; have HBE := Lib.hid hbel
                have p0 : w6.cell? ⟨pb, 0, none⟩ = some (.int .i64 0) := cell_of_row _ _ 0 _ 32 (0, 0) HX6.out
                have p1 : w6.cell? ⟨pb, 1, none⟩ = some (.slice none 0 0) := cell_of_row _ _ 1 _ 32 (0, 0) HX6.out
                have p2 : w6.cell? ⟨pb, 2, none⟩ = some (.slice none 0 0) := cell_of_row _ _ 2 _ 32 (0, 0) HX6.out
                have z0 : w6.frozen? ⟨pb, 0, none⟩ = false := frozen_of_row _ _ 0 _ _ HX6.out
                have z1 : w6.frozen? ⟨pb, 1, none⟩ = false := frozen_of_row _ _ 1 _ _ HX6.out
                have z2 : w6.frozen? ⟨pb, 2, none⟩ = false := frozen_of_row _ _ 2 _ _ HX6.out
                clear hh hbel HX6 h3 d3
                go_wp2_with fail
                generalize (((w6.setCell ⟨pb, 0, none⟩ (.int .i64 0)).setCell ⟨pb, 1, none⟩ (.slice none 0 0)).setCell ⟨pb, 2, none⟩ (.slice none 0 0)) = wf at *
                have e0 : wf.cell? ⟨pb, 0, none⟩ = some (.int .i64 0) := cell_of_row _ _ 0 _ 32 (0, 0) HH.out
                have e1 : wf.cell? ⟨pb, 1, none⟩ = some (.slice none 0 0) := cell_of_row _ _ 1 _ 32 (0, 0) HH.out
                have e2 : wf.cell? ⟨pb, 2, none⟩ = some (.slice none 0 0) := cell_of_row _ _ 2 _ 32 (0, 0) HH.out
                refine bodyPost_ret (v := .tuple #[.agg #[.int .i64 0, .slice none 0 0, .slice none 0 0], .int .i64 1]) (by simp [results, Try.results15, go_sem, e0, e1, e2]) rfl ?_
                obtain rfl := HPB.out
                exact ⟨by rw [HV.out], HBE.out⟩
            · have f0 : (x.src == 0) = false := by simpa using h0
              have HG2 := Lib.hid (HGD.out (by unfold badS; omega))
              clear h2 h0
              go_wp2_with fail
              go_roundw
              case measure => simp [intOf]; omega
              case rel => exact ⟨k + 1, by omega, by go_num, Lib.hid ⟨HB5.out, HX5.out, HG2.out⟩⟩
        · obtain rfl : k = len := by omega
          clear hlt hk
          have HV : Hid (makeE l size most = 10 ∧ 1048576 < Sc.tot l) := Lib.hid (by
            unfold makeE at hE ⊢
            have hg := HI.out.2.2
            rw [← HL.out, List.take_length] at hg
            rw [if_neg (by
              rintro (h1 | h1)
              · exact h1 HM.out
              · omega), if_neg (by
              rintro ⟨s, hs, hb⟩
              exact hg s hs hb)] at hE ⊢
            split at hE
            · rw [if_pos (by assumption)]; exact ⟨rfl, by assumption⟩
            · exact absurd rfl hE)
          have HSZ : Hid (Sc.sizeL l = Sc.tot l) := Lib.hid (if_pos HM.out)
          have ht1 := HV.out.2
          have ht2 := HM.out.2
          clear hE
          go_wp2_with fail
          refine (Sc.Size_any A k cap wr l HL.out ((HR.out.below HI.out.1 (by have := HPB.out; omega)).more hszr |> fun h => by obtain rfl := HPB.out; exact h) hl9).mono ?_
          rw [HSZ.out]
          rintro e w3 ⟨rfl, hb3⟩
          have HX3 := Lib.hid ((hb3.block _ (Array.getElem?_eq_some_iff.1 HI.out.2.1).1).trans HI.out.2.1)
          have HB3 := Lib.hid (HI.out.1.trans (hb3.mono hszr))
          clear hb3 HI hszr HSZ
          obtain ⟨hh, hbel⟩ := zero_end HX3.out HB3.out
          have HH := Lib.hid hh; have HBE := Lib.hid hbel
          have p0 : w3.cell? ⟨pb, 0, none⟩ = some (.int .i64 0) := cell_of_row _ _ 0 _ 32 (0, 0) HX3.out
          have p1 : w3.cell? ⟨pb, 1, none⟩ = some (.slice none 0 0) := cell_of_row _ _ 1 _ 32 (0, 0) HX3.out
          have p2 : w3.cell? ⟨pb, 2, none⟩ = some (.slice none 0 0) := cell_of_row _ _ 2 _ 32 (0, 0) HX3.out
          have z0 : w3.frozen? ⟨pb, 0, none⟩ = false := frozen_of_row _ _ 0 _ _ HX3.out
          have z1 : w3.frozen? ⟨pb, 1, none⟩ = false := frozen_of_row _ _ 1 _ _ HX3.out
          have z2 : w3.frozen? ⟨pb, 2, none⟩ = false := frozen_of_row _ _ 2 _ _ HX3.out
          clear hh hbel HX3
          go_wp2_with fail
          generalize (((w3.setCell ⟨pb, 0, none⟩ (.int .i64 0)).setCell ⟨pb, 1, none⟩ (.slice none 0 0)).setCell ⟨pb, 2, none⟩ (.slice none 0 0)) = wf at *
          have e0 : wf.cell? ⟨pb, 0, none⟩ = some (.int .i64 0) := cell_of_row _ _ 0 _ 32 (0, 0) HH.out
          have e1 : wf.cell? ⟨pb, 1, none⟩ = some (.slice none 0 0) := cell_of_row _ _ 1 _ 32 (0, 0) HH.out
          have e2 : wf.cell? ⟨pb, 2, none⟩ = some (.slice none 0 0) := cell_of_row _ _ 2 _ 32 (0, 0) HH.out
          refine bodyPost_ret (v := .tuple #[.agg #[.int .i64 0, .slice none 0 0, .slice none 0 0], .int .i64 10]) (by simp [results, Try.results15, go_sem, e0, e1, e2]) rfl ?_
          obtain rfl := HPB.out
          exact ⟨by rw [HV.out.1], HBE.out⟩
  · have HV : Hid (makeE l size most = 1) := Lib.hid (if_pos (.inl hM))
    have HMB := Lib.hid (Sc.mayB_not hM)
    clear hE hM
    go_enter Try.func15, Try.ntmps15
    go_wp2_with fail
    generalize w.alloc (.cells #[.int .i64 0, .slice none 0 0, .slice none 0 0] 32) = W1 at *
    refine (Sc.may_any A len cap W1 l HL.out (HR.out.up HB1.out) hl9).mono ?_
    rw [HMB.out]
    rintro e w2 ⟨rfl, hb2⟩
    have HB2 := Lib.hid (HB1.out.trans (hb2.mono HB1.out.size))
    have hx2 := (hb2.block _ (Array.getElem?_eq_some_iff.1 HX1.out).1).trans HX1.out
    obtain ⟨hh, hbel⟩ := zero_end hx2 HB2.out
    have HH := Lib.hid hh; have HBE := Lib.hid hbel
    have p0 : w2.cell? ⟨w.heap.size, 0, none⟩ = some (.int .i64 0) := cell_of_row _ _ 0 _ 32 (0, 0) hx2
    have p1 : w2.cell? ⟨w.heap.size, 1, none⟩ = some (.slice none 0 0) := cell_of_row _ _ 1 _ 32 (0, 0) hx2
    have p2 : w2.cell? ⟨w.heap.size, 2, none⟩ = some (.slice none 0 0) := cell_of_row _ _ 2 _ 32 (0, 0) hx2
    have z0 : w2.frozen? ⟨w.heap.size, 0, none⟩ = false := frozen_of_row _ _ 0 _ _ hx2
    have z1 : w2.frozen? ⟨w.heap.size, 1, none⟩ = false := frozen_of_row _ _ 1 _ _ hx2
    have z2 : w2.frozen? ⟨w.heap.size, 2, none⟩ = false := frozen_of_row _ _ 2 _ _ hx2
    clear hb2 HB1 HX1 HMB hx2 hh hbel
    go_wp2_with fail
    generalize (((w2.setCell ⟨w.heap.size, 0, none⟩ (.int .i64 0)).setCell ⟨w.heap.size, 1, none⟩ (.slice none 0 0)).setCell ⟨w.heap.size, 2, none⟩ (.slice none 0 0)) = wf at *
    have e0 : wf.cell? ⟨w.heap.size, 0, none⟩ = some (.int .i64 0) := cell_of_row _ _ 0 _ 32 (0, 0) HH.out
    have e1 : wf.cell? ⟨w.heap.size, 1, none⟩ = some (.slice none 0 0) := cell_of_row _ _ 1 _ 32 (0, 0) HH.out
    have e2 : wf.cell? ⟨w.heap.size, 2, none⟩ = some (.slice none 0 0) := cell_of_row _ _ 2 _ 32 (0, 0) HH.out
    refine bodyPost_ret (v := .tuple #[.agg #[.int .i64 0, .slice none 0 0, .slice none 0 0], .int .i64 1]) (by simp [results, Try.results15, go_sem, e0, e1, e2]) rfl ⟨by rw [HV.out], HBE.out⟩
end Go.Proofs.Yteceephenfmdoaa
