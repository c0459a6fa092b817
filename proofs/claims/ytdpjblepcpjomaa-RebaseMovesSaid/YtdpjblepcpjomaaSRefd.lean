/-
  What the reference's Splice, Piece and Text answer: what the program's do, for every list and all numbers.
-/
import Derived.Test.YtdpjblepcpjomaaSRefc
import Derived.Test.YtdpjblepcpjomaaSBts
namespace Go.Proofs.Ytdpjblepcpjomaa.Sc
open Go.RowKit
set_option maxHeartbeats 800000 in
set_option maxRecDepth 100000 in
theorem refText_any (A : Option Addr) (len cap : Nat) (As : Option Addr) (ns cs : Nat) (w : World) (l : List S) (srcs : List (List Int)) (hlen : l.length = len) (hr : Rd w w.heap.size A l) (hm : len ≤ 9223372036854775807)
    (hls : srcs.length = ns) (hrs : RdBL w w.heap.size As srcs) (_hms : ns ≤ 9223372036854775807) :
    Calls Try.prog 22 #[.slice A len cap, .slice As ns cs] w (TextR w srcs l) := by
  have H := Lib.hid hlen; have HR := Lib.hid hr
  have HLS := Lib.hid hls; have HRS := Lib.hid hrs
  clear hlen hr hls hrs
  obtain ⟨i0, hi, hz0, hz1, hz2⟩ := info_parts info5
  by_cases hM : MayP l
  · have e1 := mayB_of hM
    have t1 := hM.2
    have HM := Lib.hid hM
    have hTE : TextE srcs l = textE srcs l := by unfold TextE; rw [if_pos hM]
    have HTE := Lib.hid hTE
    clear hM hTE
    go_enter Try.func22, Try.ntmps22
    go_wp2_with fail
    refine (refMay_any A len cap _ l H.out HR.out hm).mono ?_
    rintro e w1 ⟨rfl, hb1⟩
    have HR1 := Lib.hid (HR.out.up hb1)
    have HRS1 := Lib.hid (HRS.out.up hb1)
    have HB1 := Lib.hid hb1
    clear hb1
    go_wp2_with fail
    generalize hBB : w1.heap.size = BB at *
    have HBB := Lib.hid hBB; clear hBB
    go_loopw [6, 7] (fun v i wr => ∃ k A' n c, k ≤ len ∧ i = .int .i64 k ∧ v = .slice A' n c ∧ Hid (∀ s ∈ l.take k, Has srcs s) ∧ OwnB wr BB A' n c (textB srcs (l.take k)) ∧ Below BB w1 wr) (fun _ i _ => len - (intOf i).toNat)
    case atStart => exact ⟨0, _, _, _, Nat.zero_le _, rfl, rfl, Lib.hid (fun s hs => by simp at hs), OwnB.nil _ _, Below.refl _ _⟩
    case round =>
      obtain ⟨k, A', n, c, hk, rfl, rfl, hhas, hown, hb⟩ := hrel
      have HO := Lib.hid hown
      have HBel := Lib.hid hb
      have hsz : BB ≤ wr.heap.size := by have := hb.size; have := HBB.out; omega
      by_cases hlt : k < len
      · obtain ⟨s, hs⟩ := get_some l k (by have := H.out; omega)
        have hTA := textE_at hs hhas.out
        have e1 := tot_take_succ l k s hs
        have q1 := tot_take_le l HM.out.1 (k+1)
        have hn : (n : Int) = tot (l.take k) := by rw [← textB_length hhas.out (HM.out.1.take k), hown.1]
        have hn2 : (n : Int) + s.len ≤ 1099511627776 := by omega
        have HTB := Lib.hid (@textB_snoc srcs l k s hs)
        have HHT := Lib.hid (@has_take srcs l k s hs hhas.out)
        obtain ⟨o1, o2, o3, o4, o5⟩ := HM.out.1.at_ hs
        obtain ⟨b, off, rfl, hb', h0, h1, h2⟩ := HR1.out.below hb (by omega) k s hs
        obtain ⟨src, at_, slen⟩ := s
        simp only at *
        obtain ⟨σ, rfl⟩ := Int.eq_ofNat_of_zero_le o1
        obtain ⟨α, rfl⟩ := Int.eq_ofNat_of_zero_le o3
        obtain ⟨μ, rfl⟩ := Int.eq_ofNat_of_zero_le (show 0 ≤ slen by omega)
        have HTA := Lib.hid hTA
        clear hTA e1 q1 hn hs hb' hown hb
        by_cases hσ : ns ≤ σ
        · have hE : TextE srcs l = 6 := by
            rw [HTE.out, HTA.out, textE, if_pos (by have := HLS.out; simp only; omega)]
          have HE := Lib.hid hE
          clear hE
          go_wp2_with fail
          go_ret2
          refine ⟨⟨_, _, _, by rw [HE.out]; rfl, ?_⟩, HB1.out.trans ((HBel.out.alloc hsz _).mono (by have := HB1.out.size; have := HBB.out; omega))⟩
          rw [TextL_err (by rw [HE.out]; decide)]
          exact OwnB.nil _ _
        · obtain ⟨t, ht⟩ := get_some srcs σ (by have := HLS.out; omega)
          have hsrc : srcOf srcs ⟨σ, α, μ⟩ = t := by unfold srcOf; rw [Int.toNat_natCast, List.getD_eq_getElem?_getD, ht]; rfl
          obtain ⟨b2, off2, Ak, ck, rfl, hb2, c0, c1, c2, hrb⟩ := HRS1.out.below HBel.out (by have := HBB.out; omega) σ t ht
          have hTA2 := HTA.out
          rw [textE, if_neg (by have := HLS.out; simp only; omega), hsrc] at hTA2
          simp only at hTA2
          unfold maxLen at c2
          have hb2w : b2 < wr.heap.size := by have := HBB.out; omega
          by_cases hbd : (t.length : Int) < α ∨ (t.length : Int) - α < μ
          · have hE : TextE srcs l = 2 := by rw [HTE.out, hTA2, if_pos hbd]
            have HE := Lib.hid hE
            clear hE hTA2 hsrc ht hrb
            go_wp2_with fail
            all_goals
              go_ret2
              refine ⟨⟨_, _, _, by rw [HE.out]; rfl, ?_⟩, HB1.out.trans ((HBel.out.alloc hsz _).mono (by have := HB1.out.size; have := HBB.out; omega))⟩
              rw [TextL_err (by rw [HE.out]; decide)]
              exact OwnB.nil _ _
          · have d0 : α ≤ t.length := by omega
            have d1 : α + μ ≤ t.length := by omega
            have hHas : Has srcs ⟨σ, α, μ⟩ := by
              unfold Has; rw [hsrc]; have := HLS.out; simp only; omega
            obtain ⟨u, hu⟩ := get_some t 0 (by omega)
            obtain ⟨b3, off3, rfl, hb3, _⟩ := hrb 0 u hu
            have hP : pieceB srcs ⟨σ, α, μ⟩ = (t.drop α).take μ := by unfold pieceB; rw [hsrc]; rfl
            have hPl : ((t.drop α).take μ).length = μ := by simp; omega
            have HP := Lib.hid hP; have HPl := Lib.hid hPl; have HHas := Lib.hid hHas
            have HPI := Lib.hid ((hrb.piece α μ).more (B' := BB) (by have := HBB.out; omega))
            have hck : (ck = α) = False := by simp; omega
            clear hP hPl hHas hrb hu hTA2 hsrc ht hbd
            go_wp2_with (at_builtin; (refine wpList_append_own _ rfl _ _ 41 rfl BB 5 i0 _ 1 1 Try.underlying41 hi hz0 hz1 hz2 rfl (by decide) _ _ _ rfl (HO.out.alloc _).2 _ _ _ (bcells ((t.drop α).take μ)) rfl ?c0 ?c1 ?c2 ?c3 ?c4 ?c5 ?_))
            case c0 => rw [bcells, List.length_map, HPl.out]; omega
            case c1 => exact (HPI.out.alloc hsz _).cells
            case c2 => exact bcells_one _
            case c3 => unfold maxLen; omega
            case c4 => omega
            case c5 => simp; omega
            intro v' w2 hown' hgrow _
            obtain ⟨⟨A'', c'', hv, hown2⟩, hb2', _, hz3, hcl⟩ := appB_step HO.out HBel.out hsz ((Below.refl _ _).alloc (Nat.le_refl _) _) HPl.out hown' hgrow
            rw [hv]
            clear hcl hgrow hown' hv
            go_wp2
            go_roundw
            case rel => exact ⟨k+1, A'', n+μ, c'', by omega, by go_num, rfl, Lib.hid (HHT.out HHas.out), by rw [HTB.out, HP.out]; exact hown2, hb2'⟩
            case measure => simp [intOf]; omega
      · obtain rfl : k = len := by omega
        clear hlt
        have e2 : l.take k = l := by rw [List.take_of_length_le (Nat.le_of_eq H.out)]
        rw [e2] at hown hhas
        have hE : TextE srcs l = 0 := by rw [HTE.out, textE_all hhas.out]
        have HE := Lib.hid hE
        clear hE
        have hnb : n ≤ 140737488355328 := by
          have h1 := textB_length hhas.out HM.out.1
          have := hown.1
          omega
        have HOw := Lib.hid hown
        clear hown
        go_wp2_with fail
        refine (Copy_any A' n c _ (textB srcs l) HOw.out.1 HOw.out.rd hnb).mono ?_
        rintro e w9 ⟨⟨A9, m9, c9, rfl, hown9⟩, hb9⟩
        have HO9 := Lib.hid hown9
        have HB9 := Lib.hid (HB1.out.trans ((HBel.out.trans (hb9.mono hsz)).mono (by have := HB1.out.size; have := HBB.out; omega)))
        clear hown9 hb9
        go_wp2_with fail
        go_ret2
        refine ⟨⟨_, _, _, by rw [HE.out]; rfl, ?_⟩, HB9.out⟩
        rw [TextL_ok HE.out]
        exact HO9.out.mono (by have := HB1.out.size; have := HBB.out; omega)
  · have e1 := mayB_not hM
    have hTE : TextE srcs l = 1 := by unfold TextE; rw [if_neg hM]
    have hTL : TextL srcs l = [] := by unfold TextL; rw [if_neg (by rw [hTE]; decide)]
    have HTE := Lib.hid hTE
    have HTL := Lib.hid hTL
    clear hM hTE hTL
    go_enter Try.func22, Try.ntmps22
    go_wp2_with fail
    refine (refMay_any A len cap _ l H.out HR.out hm).mono ?_
    rintro e w1 ⟨rfl, hb1⟩
    go_wp2_with fail
    go_ret2
    refine ⟨⟨_, _, _, by rw [HTE.out]; rfl, ?_⟩, hb1⟩
    rw [HTL.out]
    exact OwnB.nil _ _

end Go.Proofs.Ytdpjblepcpjomaa.Sc
