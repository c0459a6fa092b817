/-
  What rebase.Move answers, for every target, all rescued places and every list (of at most 300 scraps, 100000 places, 100000 scraps): the list told anew, or the refusal.
-/
import Derived.Test.YtdpjblepcpjomaaWFirst
import Derived.Test.YtdpjblepcpjomaaWOne
import Derived.Test.YtdpjblepcpjomaaRWalkd
namespace Go.Proofs.Ytdpjblepcpjomaa.Rb
open Go.RowKit
def Good (T : List S) (RS : List R) (a : Int) (l : List S) : Prop := MayX T ∧ MayX l ∧ Right RS ∧ 0 ≤ a ∧ a ≤ 1099511627776 ∧ tot RS ≤ 1099511627776 - a
open Classical in
noncomputable def moveE (T : List S) (RS : List R) (a : Int) (l : List S) : Int := if Good T RS a l then (if ∀ x ∈ Sc.bts l, mv (Sc.bts T) RS a x ≠ none then 0 else 6) else 1
noncomputable def moveR (T : List S) (RS : List R) (a : Int) (l : List S) : List S := if moveE T RS a l = 0 then moveL (Sc.bts T) RS a (Sc.bts l) else []
theorem move_bad {T : List S} {RS : List R} {a : Int} {l : List S} (h : ¬ Good T RS a l) : moveE T RS a l = 1 ∧ moveR T RS a l = [] := by
  have h1 : moveE T RS a l = 1 := by unfold moveE; rw [if_neg h]
  exact ⟨h1, by unfold moveR; rw [h1, if_neg (by decide)]⟩
theorem move_none {T : List S} {RS : List R} {a : Int} {l : List S} (h : Good T RS a l) {x : B} (hx : x ∈ Sc.bts l) (hn : mv (Sc.bts T) RS a x = none) : moveE T RS a l = 6 ∧ moveR T RS a l = [] := by
  have h1 : moveE T RS a l = 6 := by unfold moveE; rw [if_pos h, if_neg (fun h2 => h2 x hx hn)]
  exact ⟨h1, by unfold moveR; rw [h1, if_neg (by decide)]⟩
theorem move_done {T : List S} {RS : List R} {a : Int} {l : List S} (h : Good T RS a l) (hx : ∀ x ∈ Sc.bts l, mv (Sc.bts T) RS a x ≠ none) : moveE T RS a l = 0 ∧ moveR T RS a l = moveL (Sc.bts T) RS a (Sc.bts l) := by
  have h1 : moveE T RS a l = 0 := by unfold moveE; rw [if_pos h, if_pos hx]
  exact ⟨h1, by unfold moveR; rw [h1, if_pos rfl]⟩
theorem right_nn {RS : List R} (h : Right RS) (hI : IR RS) : Nn RS := by
  intro r hr
  have h1 := right_mem h hr
  have h2 := hI r hr
  unfold I64 at h2
  omega
theorem nl_right {RS : List R} (h : Right RS) : nl RS = RS :=
  (nl_is RS).uniq (⟨h, fun x => ⟨fun hx => ⟨by have := right_above h hx; omega, hx⟩, fun hx => hx.2⟩⟩ : Is RS (fun x => 0 ≤ x ∧ In RS x)) fun _ => Iff.rfl
/-- A store beside a row of scraps. -/
theorem Own.off {w : World} {base : Nat} {A : Option Addr} {n cap : Nat} {l : List S} (h : Sc.Own w base A n cap l) (a : Addr) (v : Value) (ha : (Value.slice A n cap).ownBlock ≠ some a.block) : Sc.Own (w.setCell a v) base A n cap l := by
  refine ⟨h.1, h.2.kept (w' := w.setCell a v) (row := some a.block) ?_ (.inr fun hh => ha hh)⟩
  have hb := (Below.refl 0 w).setCell (p := a) (Nat.zero_le _) v
  exact ⟨hb.os, hb.tape, hb.output, hb.size, fun k _ hne => Below.heap_setCell w a v k (fun e => hne (by rw [e]))⟩
/-- A scrap's box and what is moved so far. -/
structure MvAt (W w : World) (BB GS : Nat) (A : Option Addr) (n c : Nat) (O : List S) (TB : List B) (RS : List R) (a : Int) (bs : List B) (s : S) : Prop where
  own : Sc.Own w BB A n c O
  off : (Value.slice A n c).ownBlock ≠ some GS
  c0 : w.cell? ⟨GS, 0, none⟩ = some (.int .i64 s.src)
  c1 : w.cell? ⟨GS, 1, none⟩ = some (.int .i64 s.at_)
  c2 : w.cell? ⟨GS, 2, none⟩ = some (.int .i64 s.len)
  f1 : w.frozen? ⟨GS, 1, none⟩ = false
  f2 : w.frozen? ⟨GS, 2, none⟩ = false
  lt : GS < w.heap.size
  ok : Sc.Ok O
  mvto : MvTo TB RS a bs O
  below : Below BB W w
theorem sb_front (s : S) (d : Int) (h0 : 0 ≤ d) (h1 : d ≤ s.len) : Sc.sb s = Sc.sb ⟨s.src, s.at_, d⟩ ++ Sc.sb ⟨s.src, s.at_ + d, s.len - d⟩ := by
  have := Sc.sb_add s.src s.at_ d (s.len - d) h0 (by omega)
  rw [show d + (s.len - d) = s.len by omega] at this
  exact this
set_option maxHeartbeats 1600000 in
theorem Move_bad (A : Option Addr) (len cap : Nat) (Ar : Option Addr) (nr cr : Nat) (a : Int) (A2 : Option Addr) (len2 cap2 : Nat) (w : World) (T : List S) (RS : List R) (l : List S) (hlen : T.length = len) (hr : Sc.Rd w w.heap.size A T) (hm : len ≤ 300)
    (hlr : RS.length = nr) (hrr : Rd w w.heap.size Ar RS) (hI : IR RS) (hmr : nr ≤ 100000) (hlen2 : l.length = len2) (hr2 : Sc.Rd w w.heap.size A2 l) (hm2 : len2 ≤ 100000) (a0 : -9223372036854775808 ≤ a) (a1 : a ≤ 9223372036854775807) (hG : ¬ Good T RS a l) :
    Calls Try.prog 17 #[.slice A len cap, .slice Ar nr cr, .int .i64 a, .slice A2 len2 cap2] w fun e w' => (∃ A' n c, e = .returned (.tuple #[.slice A' n c, .int .i64 (moveE T RS a l)]) ∧ Sc.Own w' w.heap.size A' n c (moveR T RS a l)) ∧ Below w.heap.size w w' := by
  have H := Lib.hid hlen; have HR := Lib.hid hr; have HL := Lib.hid hlr; have HRR := Lib.hid hrr; have HI := Lib.hid hI; have H2 := Lib.hid hlen2; have HR2 := Lib.hid hr2
  have HG := Lib.hid hG
  have HD := Lib.hid (move_bad hG)
  clear hlen hr hlr hrr hI hlen2 hr2 hG
  by_cases g1 : MayX T
  · have e1 := mayX_of g1
    by_cases g2 : MayX l
    · have e2 := mayX_of g2
      by_cases g3 : Right RS
      · have e3 := rightB_of g3
        have HG' := Lib.hid (show ¬ (0 ≤ a ∧ a ≤ 1099511627776 ∧ tot RS ≤ 1099511627776 - a) from fun h => HG.out ⟨g1, g2, g3, h⟩)
        have HS := Lib.hid g3
        clear g1 g2 g3
        by_cases c1 : a < 0
        · go_enter Try.func17, Try.ntmps17
          go_wp2_with fail
          refine (may_any A len cap _ T H.out HR.out (by omega)).mono ?_
          rintro e w1 ⟨rfl, hb1⟩
          have HB1 := Lib.hid hb1
          have R1 := Lib.hid (HR2.out.up hb1)
          clear hb1
          go_wp2_with fail
          refine (may_any A2 len2 cap2 _ l H2.out R1.out (by omega)).mono ?_
          rintro e w2 ⟨rfl, hb2⟩
          have HB2 := Lib.hid (below_up HB1.out hb2)
          clear hb2 R1 HB1
          have R2 := Lib.hid (HRR.out.up HB2.out)
          go_wp2_with fail
          refine (Right_any Ar nr cr _ RS HL.out R2.out (by omega)).mono ?_
          rintro e w3 ⟨rfl, hb3⟩
          have HB3 := Lib.hid (below_up HB2.out hb3)
          clear hb3 HB2 R2
          go_wp2_with fail
          go_ret2
          rw [HD.out.1, HD.out.2]
          exact ⟨⟨_, _, _, rfl, Sc.Own.nil _ _⟩, HB3.out⟩
        · by_cases c2 : 1099511627776 < a
          · go_enter Try.func17, Try.ntmps17
            go_wp2_with fail
            refine (may_any A len cap _ T H.out HR.out (by omega)).mono ?_
            rintro e w1 ⟨rfl, hb1⟩
            have HB1 := Lib.hid hb1
            have R1 := Lib.hid (HR2.out.up hb1)
            clear hb1
            go_wp2_with fail
            refine (may_any A2 len2 cap2 _ l H2.out R1.out (by omega)).mono ?_
            rintro e w2 ⟨rfl, hb2⟩
            have HB2 := Lib.hid (below_up HB1.out hb2)
            clear hb2 R1 HB1
            have R2 := Lib.hid (HRR.out.up HB2.out)
            go_wp2_with fail
            refine (Right_any Ar nr cr _ RS HL.out R2.out (by omega)).mono ?_
            rintro e w3 ⟨rfl, hb3⟩
            have HB3 := Lib.hid (below_up HB2.out hb3)
            clear hb3 HB2 R2
            go_wp2_with fail
            go_ret2
            rw [HD.out.1, HD.out.2]
            exact ⟨⟨_, _, _, rfl, Sc.Own.nil _ _⟩, HB3.out⟩
          · have c3 : 1099511627776 - a < tot RS := by
              have := HG'.out
              omega
            go_enter Try.func17, Try.ntmps17
            go_wp2_with fail
            refine (may_any A len cap _ T H.out HR.out (by omega)).mono ?_
            rintro e w1 ⟨rfl, hb1⟩
            have HB1 := Lib.hid hb1
            have R1 := Lib.hid (HR2.out.up hb1)
            clear hb1
            go_wp2_with fail
            refine (may_any A2 len2 cap2 _ l H2.out R1.out (by omega)).mono ?_
            rintro e w2 ⟨rfl, hb2⟩
            have HB2 := Lib.hid (below_up HB1.out hb2)
            clear hb2 R1 HB1
            have R2 := Lib.hid (HRR.out.up HB2.out)
            go_wp2_with fail
            refine (Right_any Ar nr cr _ RS HL.out R2.out (by omega)).mono ?_
            rintro e w3 ⟨rfl, hb3⟩
            have HB3 := Lib.hid (below_up HB2.out hb3)
            clear hb3 HB2 R2
            have R3 := Lib.hid (HRR.out.up HB3.out)
            go_wp2_with fail
            refine (Total_any Ar nr cr _ RS HL.out R3.out HI.out (by omega)).mono ?_
            rintro e w4 ⟨rfl, hb4⟩
            rw [nl_right HS.out]
            have HB4 := Lib.hid (below_up HB3.out hb4)
            clear hb4 HB3 R3
            go_wp2_with fail
            go_ret2
            rw [HD.out.1, HD.out.2]
            exact ⟨⟨_, _, _, rfl, Sc.Own.nil _ _⟩, HB4.out⟩
      · have e3 := rightB_not g3
        clear g1 g2 g3
        go_enter Try.func17, Try.ntmps17
        go_wp2_with fail
        refine (may_any A len cap _ T H.out HR.out (by omega)).mono ?_
        rintro e w1 ⟨rfl, hb1⟩
        have HB1 := Lib.hid hb1
        have R1 := Lib.hid (HR2.out.up hb1)
        clear hb1
        go_wp2_with fail
        refine (may_any A2 len2 cap2 _ l H2.out R1.out (by omega)).mono ?_
        rintro e w2 ⟨rfl, hb2⟩
        have HB2 := Lib.hid (below_up HB1.out hb2)
        clear hb2 R1 HB1
        have R2 := Lib.hid (HRR.out.up HB2.out)
        go_wp2_with fail
        refine (Right_any Ar nr cr _ RS HL.out R2.out (by omega)).mono ?_
        rintro e w3 ⟨rfl, hb3⟩
        have HB3 := Lib.hid (below_up HB2.out hb3)
        clear hb3 HB2 R2
        go_wp2_with fail
        go_ret2
        rw [HD.out.1, HD.out.2]
        exact ⟨⟨_, _, _, rfl, Sc.Own.nil _ _⟩, HB3.out⟩
    · have e2 := mayX_not g2
      clear g1 g2
      go_enter Try.func17, Try.ntmps17
      go_wp2_with fail
      refine (may_any A len cap _ T H.out HR.out (by omega)).mono ?_
      rintro e w1 ⟨rfl, hb1⟩
      have HB1 := Lib.hid hb1
      have R1 := Lib.hid (HR2.out.up hb1)
      clear hb1
      go_wp2_with fail
      refine (may_any A2 len2 cap2 _ l H2.out R1.out (by omega)).mono ?_
      rintro e w2 ⟨rfl, hb2⟩
      have HB2 := Lib.hid (below_up HB1.out hb2)
      clear hb2 R1 HB1
      go_wp2_with fail
      go_ret2
      rw [HD.out.1, HD.out.2]
      exact ⟨⟨_, _, _, rfl, Sc.Own.nil _ _⟩, HB2.out⟩
  · have e1 := mayX_not g1
    clear g1
    go_enter Try.func17, Try.ntmps17
    go_wp2_with fail
    refine (may_any A len cap _ T H.out HR.out (by omega)).mono ?_
    rintro e w1 ⟨rfl, hb1⟩
    have HB1 := Lib.hid hb1
    clear hb1
    go_wp2_with fail
    go_ret2
    rw [HD.out.1, HD.out.2]
    exact ⟨⟨_, _, _, rfl, Sc.Own.nil _ _⟩, HB1.out⟩
set_option maxHeartbeats 3200000 in
set_option maxRecDepth 100000 in
theorem Move_any (A : Option Addr) (len cap : Nat) (Ar : Option Addr) (nr cr : Nat) (a : Int) (A2 : Option Addr) (len2 cap2 : Nat) (w : World) (T : List S) (RS : List R) (l : List S) (hlen : T.length = len) (hr : Sc.Rd w w.heap.size A T) (hm : len ≤ 300)
    (hlr : RS.length = nr) (hrr : Rd w w.heap.size Ar RS) (hI : IR RS) (hmr : nr ≤ 100000) (hlen2 : l.length = len2) (hr2 : Sc.Rd w w.heap.size A2 l) (hm2 : len2 ≤ 100000) (a0 : -9223372036854775808 ≤ a) (a1 : a ≤ 9223372036854775807) :
    Calls Try.prog 17 #[.slice A len cap, .slice Ar nr cr, .int .i64 a, .slice A2 len2 cap2] w fun e w' => (∃ A' n c, e = .returned (.tuple #[.slice A' n c, .int .i64 (moveE T RS a l)]) ∧ Sc.Own w' w.heap.size A' n c (moveR T RS a l)) ∧ Below w.heap.size w w' := by
  obtain ⟨i0, hi, hz0, hz1, hz2⟩ := info_parts Sc.info31
  have H := Lib.hid hlen; have HR := Lib.hid hr; have HL := Lib.hid hlr; have HRR := Lib.hid hrr; have HI := Lib.hid hI; have H2 := Lib.hid hlen2; have HR2 := Lib.hid hr2
  clear hlen hr hlr hrr hI hlen2 hr2
  by_cases hG : Good T RS a l
  · obtain ⟨g1, g2, g3, g4, g5, g6⟩ := hG
    have HG := Lib.hid (show Good T RS a l from ⟨g1, g2, g3, g4, g5, g6⟩)
    have e1 := mayX_of g1; have e2 := mayX_of g2; have e3 := rightB_of g3
    have HT := Lib.hid g1; have HM := Lib.hid g2; have HS := Lib.hid g3
    clear g1 g2 g3
    have d1 : decide (a < 0) = false := decide_eq_false (by omega)
    have d2 : decide (1099511627776 < a) = false := decide_eq_false (by omega)
    have d3 : decide (1099511627776 - a < tot RS) = false := decide_eq_false (by omega)
    go_enter Try.func17, Try.ntmps17
    go_wp2_with fail
    refine (may_any A len cap _ T H.out HR.out (by omega)).mono ?_
    rintro e w1 ⟨rfl, hb1⟩
    have HB1 := Lib.hid hb1
    have R1 := Lib.hid (HR2.out.up hb1)
    clear hb1
    go_wp2_with fail
    refine (may_any A2 len2 cap2 _ l H2.out R1.out (by omega)).mono ?_
    rintro e w2 ⟨rfl, hb2⟩
    have HB2 := Lib.hid (below_up HB1.out hb2)
    clear hb2 R1 HB1
    have R2 := Lib.hid (HRR.out.up HB2.out)
    go_wp2_with fail
    refine (Right_any Ar nr cr _ RS HL.out R2.out (by omega)).mono ?_
    rintro e w3 ⟨rfl, hb3⟩
    have HB3 := Lib.hid (below_up HB2.out hb3)
    clear hb3 HB2 R2
    have R3 := Lib.hid (HRR.out.up HB3.out)
    go_wp2_with fail
    refine (Total_any Ar nr cr _ RS HL.out R3.out HI.out (by omega)).mono ?_
    rintro e w4 ⟨rfl, hb4⟩
    rw [nl_right HS.out]
    have HB4 := Lib.hid (below_up HB3.out hb4)
    clear hb4 HB3 R3
    have R4 := Lib.hid (HR.out.up HB4.out)
    go_wp2_with fail
    refine (first_any A len cap _ T H.out R4.out hm HT.out).mono ?_
    rintro e w5 ⟨⟨Af, nf, cf, rfl, hown5⟩, hb5⟩
    have HB5 := Lib.hid (below_up HB4.out hb5)
    have HF := Lib.hid hown5.rd; have HLF := Lib.hid hown5.1
    have hnf : nf ≤ 1000000 := by
      rw [← hown5.1]
      refine Nat.le_trans (runsK_len T _ (Nat.le_refl _)) ?_
      rw [H.out]
      exact Nat.le_trans (Nat.mul_le_mul hm (Nat.add_le_add_right hm 1)) (by decide)
    clear hb5 hown5 HB4 R4
    go_wp2_with fail
    have hcm : ∀ j, (w5.alloc (.cells #[.slice Af nf cf, .slice Ar nr cr, .int .i64 a] 69)).cell? ⟨w5.heap.size, j, none⟩ = (#[.slice Af nf cf, .slice Ar nr cr, .int .i64 a] : Array Value)[j]? := fun j => cell_new _ _ _ _
    have HCM := Lib.hid (show (w5.alloc (.cells #[.slice Af nf cf, .slice Ar nr cr, .int .i64 a] 69)).cell? ⟨w5.heap.size, 0, none⟩ = some (.slice Af nf cf) ∧ (w5.alloc (.cells #[.slice Af nf cf, .slice Ar nr cr, .int .i64 a] 69)).cell? ⟨w5.heap.size, 1, none⟩ = some (.slice Ar nr cr) ∧ (w5.alloc (.cells #[.slice Af nf cf, .slice Ar nr cr, .int .i64 a] 69)).cell? ⟨w5.heap.size, 2, none⟩ = some (.int .i64 a) from ⟨hcm 0, hcm 1, hcm 2⟩)
    have HB6 := Lib.hid (HB5.out.alloc HB5.out.size (.cells #[.slice Af nf cf, .slice Ar nr cr, .int .i64 a] 69))
    have HF6 := Lib.hid ((HF.out.alloc (Nat.le_refl _) (.cells #[.slice Af nf cf, .slice Ar nr cr, .int .i64 a] 69)).more (B' := w5.heap.size + 1) (by omega))
    have hsW : (w5.alloc (.cells #[.slice Af nf cf, .slice Ar nr cr, .int .i64 a] 69)).heap.size = w5.heap.size + 1 := by simp
    clear hcm HF
    generalize (w5.alloc (.cells #[.slice Af nf cf, .slice Ar nr cr, .int .i64 a] 69)) = W at *
    have R6 := Lib.hid (HR2.out.up HB6.out)
    have RR6 := Lib.hid (HRR.out.up HB6.out)
    rw [hsW] at R6 RR6
    generalize hMB : w5.heap.size = MB at *
    have hwm : w.heap.size ≤ MB := by have := HB5.out.size; omega
    obtain ⟨BB, hBB⟩ : ∃ BB, BB = MB + 1 := ⟨_, rfl⟩
    rw [← hBB] at HF6 R6 RR6 hsW
    have HBB := Lib.hid hBB
    have hMBB : MB < BB := by omega
    clear hBB hMB HB5 HR HR2 HRR
    go_loopw [11, 51] (fun v i wr => ∃ k n A' c O, k ≤ len2 ∧ i = .int .i64 k ∧ v = .slice A' n c ∧ Sc.Own wr BB A' n c O ∧ Hid (Sc.Ok O) ∧ Hid (MvTo (Sc.bts T) RS a (Sc.bts (l.take k)) O) ∧ Below BB W wr) (fun _ i _ => len2 - (intOf i).toNat)
    case atStart => exact ⟨0, 0, _, _, [], Nat.zero_le _, rfl, rfl, Sc.Own.nil _ _, Lib.hid Sc.ok_nil, Lib.hid (MvTo.nil _ _ _), Below.refl _ _⟩
    case round =>
      obtain ⟨k, n, A', c, O, hk, rfl, rfl, hown, HOk, HTo, hb⟩ := hrel
      have hsz : BB ≤ wr.heap.size := by have := hb.size; omega
      have HOw := Lib.hid hown; have HBel := Lib.hid hb
      by_cases hlt : k < len2
      · obtain ⟨s, hs⟩ := Sc.get_some l k (by have := H2.out; omega)
        obtain ⟨b, off, rfl, hb', h0, h1, h2⟩ := R6.out.below hb (Nat.le_refl _) k s hs
        have hok := HM.out.2.1.at_ hs
        have HSk := Lib.hid hs
        have HOKs := Lib.hid hok
        clear hs hown hb hok
        unfold Sc.okS at HOKs
        have hok := HOKs.out
        obtain ⟨sl, hsl⟩ : ∃ sl : Nat, s.len = (sl : Int) := ⟨s.len.toNat, by omega⟩
        rw [hsl] at hok h2
        have HSL := Lib.hid hsl
        clear hsl
        go_wp2_with fail
        have hat0 : MvAt W (wr.alloc (.cells #[.int .i64 s.src, .int .i64 s.at_, .int .i64 (sl : Int)] 56)) BB wr.heap.size A' n c O (Sc.bts T) RS a (Sc.bts (l.take k) ++ Sc.sb ⟨s.src, s.at_, (sl : Int) - (sl : Int)⟩) ⟨s.src, s.at_ + ((sl : Int) - (sl : Int)), (sl : Int)⟩ := by
          have e : (sl : Int) - (sl : Int) = 0 := by omega
          refine ⟨HOw.out.alloc _, fun hx => by have := (HOw.out.2.lt _ hx).2; omega, by rw [Sc.cell_new]; rfl, by rw [Sc.cell_new, e, Int.add_zero]; rfl, by rw [Sc.cell_new]; rfl, ?_, ?_, by simp, HOk.out, ?_, HBel.out.alloc hsz _⟩
          · unfold World.frozen?; rw [heap_alloc_new]; simp
          · unfold World.frozen?; rw [heap_alloc_new]; simp
          · rw [e]
            have : Sc.sb ⟨s.src, s.at_, 0⟩ = [] := rfl
            rw [this, List.append_nil]; exact HTo.out
        have HAT := Lib.hid hat0
        clear hat0 h0 h1 h2
        have hgs : BB ≤ wr.heap.size := hsz
        generalize (wr.alloc (.cells #[.int .i64 s.src, .int .i64 s.at_, .int .i64 (sl : Int)] 56)) = W2 at *
        generalize wr.heap.size = GS at *
        clear HOw HBel HOk HTo
        go_loopg [11] sl (fun gh v wx => ∃ A3 n3 c3 O3, v = .slice A3 n3 c3 ∧ gh ≤ sl ∧ Hid (MvAt W wx BB GS A3 n3 c3 O3 (Sc.bts T) RS a (Sc.bts (l.take k) ++ Sc.sb ⟨s.src, s.at_, (sl : Int) - (gh : Int)⟩) ⟨s.src, s.at_ + ((sl : Int) - (gh : Int)), (gh : Int)⟩))
        case atStart => exact ⟨A', n, c, O, rfl, Nat.le_refl _, HAT⟩
        case round =>
          obtain ⟨A3, n3, c3, O3, rfl, hgk, HV⟩ := hrel
          obtain ⟨_, hoff, c0, c1, c2, f1, f2, hlt3, _, _, hbel3⟩ := HV.out
          have m0 := (hbel3.cell (p := ⟨MB, 0, none⟩) hMBB).trans HCM.out.1
          have m1 := (hbel3.cell (p := ⟨MB, 1, none⟩) hMBB).trans HCM.out.2.1
          have m2 := (hbel3.cell (p := ⟨MB, 2, none⟩) hMBB).trans HCM.out.2.2
          have hMz : MB < wr.heap.size := by omega
          have hBz : BB ≤ wr.heap.size := by omega
          have HB3 := Lib.hid hbel3
          have HOff := Lib.hid hoff
          clear hbel3 hoff
          by_cases hg0 : gk = 0
          · subst hg0
            have e5 : Sc.bts (l.take k) ++ Sc.sb ⟨s.src, s.at_, (sl : Int) - ((0 : Nat) : Int)⟩ = Sc.bts (l.take (k+1)) := by
              rw [bts_take l k s HSk.out]
              rw [Int.natCast_zero, Int.sub_zero, ← HSL.out]
            have HV' := Lib.hid (e5 ▸ HV.out.mvto)
            clear e5
            simp only [Int.natCast_zero] at c1 c2
            go_wp2_with fail
            go_roundw
            case rel => exact ⟨k+1, n3, A3, c3, O3, by omega, by go_num, rfl, HV.out.own, Lib.hid HV.out.ok, HV', HB3.out⟩
            case measure => simp [intOf]; omega
          · have hgp : (0 : Int) < (gk : Int) := by omega
            have hBd := Lib.hid (Runs.bd HT.out.2 (T := T) (F := runsK T T.length) (by have := runs_ok HT.out.2.1 T.length (Nat.le_refl _); rwa [List.take_of_length_le (Nat.le_refl _)] at this))
            have hRuns := Lib.hid (show Runs (Sc.bts T) (runsK T T.length) from by have := runs_ok HT.out.2.1 T.length (Nat.le_refl _); rwa [List.take_of_length_le (Nat.le_refl _)] at this)
            have hoks : Sc.okS ⟨s.src, s.at_ + ((sl : Int) - (gk : Int)), (gk : Int)⟩ := by unfold Sc.okS; simp only; omega
            have HOS := Lib.hid hoks
            clear hoks
            have hn3 : n3 ≤ 1099511627776 := by
              have h1 := HV.out.mvto.len HV.out.ok
              rw [List.length_append, Sc.sb_length] at h1
              have h2 := Sc.bts_length (HM.out.2.1.take k)
              have h3 := Sc.tot_take_le l HM.out.2.1 (k+1)
              rw [Sc.tot_take_succ l k s HSk.out, HSL.out] at h3
              have h4 := HM.out.2.2
              have h5 := Sc.len_le_tot _ HV.out.ok
              have h6 := HV.out.own.1
              simp only at h1
              omega
            go_wp2_with fail
            refine (one_any Af nf cf Ar nr cr a ⟨s.src, s.at_ + ((sl : Int) - (gk : Int)), (gk : Int)⟩ _ (runsK T T.length) RS HLF.out ((HF6.out.below HB3.out (Nat.le_refl _)).more hBz) hnf (fun f hf => by have h1 := hBd.out f hf; have h2 := HT.out.2.2; omega) HL.out ((RR6.out.below HB3.out (Nat.le_refl _)).more hBz) (by omega) HS.out (right_nn HS.out HI.out) (by omega) (by omega) HOS.out).mono ?_
            rintro e w7 ⟨⟨x, hx, rfl⟩ | ⟨hn, rfl⟩, hb7⟩
            · have HX := Lib.hid hx
              have HXok := Lib.hid (one_ok HT.out.2 hRuns.out HS.out HOS.out (by omega) (by omega) hx)
              have HXm := Lib.hid (one_mv hRuns.out HS.out hx)
              have hx1 : 1 ≤ x.len := hx.1
              have hx2 : x.len ≤ (gk : Int) := hx.2.1
              have q0 := (hb7.cell (p := ⟨GS, 0, none⟩) hlt3).trans c0
              have q1 := (hb7.cell (p := ⟨GS, 1, none⟩) hlt3).trans c1
              have q2 := (hb7.cell (p := ⟨GS, 2, none⟩) hlt3).trans c2
              have r1 := (hb7.frozen (p := ⟨GS, 1, none⟩) hlt3).trans f1
              have r2 := (hb7.frozen (p := ⟨GS, 2, none⟩) hlt3).trans f2
              have hz7 : GS < w7.heap.size := Nat.lt_of_lt_of_le hlt3 hb7.size
              have hB7 : BB ≤ w7.heap.size := Nat.le_trans hBz hb7.size
              have HO7 := Lib.hid (HV.out.own.below hb7 (Nat.le_refl _))
              have HB7 := Lib.hid (HB3.out.trans (hb7.mono hBz))
              clear hb7 c0 c1 c2 f1 f2 m0 m1 m2 hx
              go_wp2_with (at_builtin; refine wpList_append_block rfl (.tmp 66) (.tmp 68) 22 rfl BB 56 i0 _ 3 24 Try.underlying22 hi hz0 hz1 hz2 rfl (by decide) _ _ _ rfl ((HO7.out.alloc _).alloc _).2 ⟨w7.heap.size + 1, 0, none⟩ 1 1 (Sc.cells [x]) rfl rfl (Sc.new_one _ x _ (by simp)) (Sc.cells_one_cell _) (by unfold maxLen; omega) (by omega) (by simp; omega) ?_)
              intro v' w8 hown' hgrow hbl
              obtain ⟨⟨A8, c8, hv, hown8⟩, hb8, hst8, hz8, hcl⟩ := Sc.app_step (w := W) HO7.out HB7.out hB7 (((Below.refl _ _).alloc (Nat.le_refl _) _).alloc (by simp) _) hown' hgrow
              have hfg := Fr.grown (W0 := (w7.alloc (.cells #[.int .i64 x.src, .int .i64 x.at_, .int .i64 x.len] 56)).alloc (.cells #[.int .i64 x.src, .int .i64 x.at_, .int .i64 x.len] 56)) (((Below.refl w7.heap.size w7).alloc (Nat.le_refl _) _).alloc (by simp) _) hgrow (by simpa using hbl)
              have t0 := (hfg.cell (p := ⟨GS, 0, none⟩) hz7 HOff.out).trans q0
              have t1 := (hfg.cell (p := ⟨GS, 1, none⟩) hz7 HOff.out).trans q1
              have t2 := (hfg.cell (p := ⟨GS, 2, none⟩) hz7 HOff.out).trans q2
              have u1 := (hfg.frozen (p := ⟨GS, 1, none⟩) hz7 HOff.out).trans r1
              have u2 := (hfg.frozen (p := ⟨GS, 2, none⟩) hz7 HOff.out).trans r2
              have hz9 : GS < w8.heap.size := Nat.lt_of_lt_of_le hz7 hfg.size
              have hoff8 := hfg.off GS hz7 HOff.out
              have x2 : w8.cell? ⟨w7.heap.size, 2, none⟩ = some (.int .i64 x.len) := by
                rw [hcl w7.heap.size 2 (Nat.le_refl _) (by simp; omega), Sc.cell_new1]; rfl
              rw [hv] at hoff8
              rw [hv]
              have HO8 := Lib.hid hown8; have HB8 := Lib.hid hb8; have HOff8 := Lib.hid hoff8
              have hx7 : GS < w7.heap.size := hz7
              clear hgrow hown' hv hbl hfg hst8 hz8 hcl hown8 hb8 hoff8 q0 q1 q2 r1 r2
              generalize w7.heap.size = XS at *
              go_wp2_with fail
              go_region
              obtain ⟨xl, hxl⟩ : ∃ xl : Nat, x.len = (xl : Int) := ⟨x.len.toNat, by omega⟩
              have hat9 : MvAt W ((w8.setCell ⟨GS, 1, none⟩ (.int .i64 (s.at_ + ((sl : Int) - (gk : Int)) + x.len))).setCell ⟨GS, 2, none⟩ (.int .i64 ((gk : Int) - x.len))).drew BB GS A8 (n3 + 1) c8 (O3 ++ [x]) (Sc.bts T) RS a (Sc.bts (l.take k) ++ Sc.sb ⟨s.src, s.at_, (sl : Int) - ((gk - xl : Nat) : Int)⟩) ⟨s.src, s.at_ + ((sl : Int) - ((gk - xl : Nat) : Int)), ((gk - xl : Nat) : Int)⟩ := by
                have e1 : ((gk - xl : Nat) : Int) = (gk : Int) - x.len := by omega
                have e2 : (sl : Int) - ((gk - xl : Nat) : Int) = ((sl : Int) - (gk : Int)) + x.len := by omega
                have k0 : ((w8.setCell ⟨GS, 1, none⟩ (.int .i64 (s.at_ + ((sl : Int) - (gk : Int)) + x.len))).setCell ⟨GS, 2, none⟩ (.int .i64 ((gk : Int) - x.len))).cell? ⟨GS, 0, none⟩ = some (.int .i64 s.src) := by
                  exact (World.cell?_setCell_other _ _ _ _ (by simp)).trans ((World.cell?_setCell_other _ _ _ _ (by simp)).trans t0)
                have k1 : ((w8.setCell ⟨GS, 1, none⟩ (.int .i64 (s.at_ + ((sl : Int) - (gk : Int)) + x.len))).setCell ⟨GS, 2, none⟩ (.int .i64 ((gk : Int) - x.len))).cell? ⟨GS, 1, none⟩ = some (.int .i64 (s.at_ + ((sl : Int) - (gk : Int)) + x.len)) := by
                  exact (World.cell?_setCell_other _ _ _ _ (by simp)).trans (World.cell?_setCell_same _ _ _ t1)
                have k2 : ((w8.setCell ⟨GS, 1, none⟩ (.int .i64 (s.at_ + ((sl : Int) - (gk : Int)) + x.len))).setCell ⟨GS, 2, none⟩ (.int .i64 ((gk : Int) - x.len))).cell? ⟨GS, 2, none⟩ = some (.int .i64 ((gk : Int) - x.len)) := by
                  exact World.cell?_setCell_same _ _ _ ((World.cell?_setCell_other _ _ _ _ (by simp)).trans t2)
                refine ⟨(Own.off (Own.off HO8.out ⟨GS, 1, none⟩ _ HOff8.out) ⟨GS, 2, none⟩ _ HOff8.out).drew, HOff8.out, k0, ?_, ?_, ?_, ?_, ?_, HV.out.ok.append ?_, ?_, ?_⟩
                · refine Eq.trans k1 ?_
                  simp only
                  rw [e2, Int.add_assoc]
                · refine Eq.trans k2 ?_
                  simp only
                  rw [e1]
                · show ((w8.setCell _ _).setCell _ _).frozen? _ = false
                  rw [World.frozen?_setCell, World.frozen?_setCell]; exact u1
                · show ((w8.setCell _ _).setCell _ _).frozen? _ = false
                  rw [World.frozen?_setCell, World.frozen?_setCell]; exact u2
                · show GS < ((w8.setCell _ _).setCell _ _).heap.size
                  simpa using hz9
                · intro y hy
                  simp at hy; subst hy; exact HXok.out
                · rw [e2, Sc.sb_add _ _ _ _ (by omega) (by omega), ← List.append_assoc]
                  exact HV.out.mvto.snoc HXm.out
                · have h := ((HB8.out.setCell (p := ⟨GS, 1, none⟩) hgs (.int .i64 (s.at_ + ((sl : Int) - (gk : Int)) + x.len))).setCell (p := ⟨GS, 2, none⟩) hgs (.int .i64 ((gk : Int) - x.len)))
                  exact ⟨h.os, h.tape, h.output, h.size, h.block⟩
              have HAT9 := Lib.hid hat9
              clear hat9
              generalize ((w8.setCell ⟨GS, 1, none⟩ (.int .i64 (s.at_ + ((sl : Int) - (gk : Int)) + x.len))).setCell ⟨GS, 2, none⟩ (.int .i64 ((gk : Int) - x.len))).drew = w9 at *
              go_wp2_with fail
              go_roundg (gk - xl)
              case measure => omega
              case rel => exact ⟨A8, n3 + 1, c8, O3 ++ [x], rfl, by omega, HAT9⟩
            · have HN := Lib.hid (one_none hRuns.out hn a)
              have hmem : (s.src, s.at_ + ((sl : Int) - (gk : Int))) ∈ Sc.bts l := by
                rw [mem_bts]
                exact ⟨s, List.mem_of_getElem? HSk.out, rfl, by omega, by have := HSL.out; omega⟩
              have HD := Lib.hid (move_none HG.out hmem HN.out)
              have HB9 := Lib.hid (HB6.out.trans ((HB3.out.trans (hb7.mono hBz)).mono (by omega)))
              clear hb7 hn hmem
              go_wp2_with fail
              go_ret2
              rw [HD.out.1, HD.out.2]
              exact ⟨⟨_, _, _, rfl, Sc.Own.nil _ _⟩, HB9.out.alloc (by have := HB9.out.size; omega) _⟩
      · obtain rfl : k = len2 := by omega
        have e9 : l.take k = l := by rw [List.take_of_length_le (Nat.le_of_eq H2.out)]
        rw [e9] at HTo
        have HD := Lib.hid (move_done HG.out HTo.out.all)
        have hlo := HTo.out.len HOk.out
        rw [Sc.bts_length HM.out.2.1] at hlo
        have htl := HM.out.2.2
        have hol := Sc.len_le_tot O HOk.out
        have hjo : Sc.JoinL O = moveR T RS a l := by
          unfold Sc.JoinL
          rw [if_pos ⟨HOk.out, by omega⟩, HD.out.2, HTo.out.join HOk.out]
        have HJO := Lib.hid hjo
        have hn1 := hown.1
        clear hown hb hlt e9 hjo
        go_wp2_with fail
        refine (Sc.Join_any A' n c _ O HOw.out.1 HOw.out.rd (by omega)).mono ?_
        rintro e w7 ⟨⟨A7, n7, c7, rfl, hown7⟩, hb7⟩
        rw [HJO.out] at hown7
        have HO7 := Lib.hid (hown7.mono (base' := w.heap.size) (by omega))
        have HB7 := Lib.hid (HB6.out.trans (((HBel.out.mono (by omega : w.heap.size ≤ BB))).trans (hb7.mono (by omega))))
        clear hown7 hb7
        go_wp2_with fail
        go_ret2
        rw [HD.out.1]
        exact ⟨⟨_, _, _, rfl, HO7.out⟩, HB7.out⟩
  · exact Move_bad A len cap Ar nr cr a A2 len2 cap2 w T RS l H.out HR.out hm HL.out HRR.out HI.out hmr H2.out HR2.out hm2 a0 a1 hG
end Go.Proofs.Ytdpjblepcpjomaa.Rb
