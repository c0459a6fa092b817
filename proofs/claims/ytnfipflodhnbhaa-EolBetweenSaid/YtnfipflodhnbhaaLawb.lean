/-
  That the law EolBetween returns true, for all bytes.
-/
import Derived.Test.YtnfipflodhnbhaaWalkb
namespace Go.Proofs.Ytnfipflodhnbhaa
open Go.RowKit
theorem RdB.cutFrom {w : World} {B : Nat} {A : Option Addr} {l : List Int} (h : RdB w B A l) (k cap : Nat) (hc : l.length ≤ cap) : RdB w B (if cap = k then A else A.map (·.add k)) (l.drop k) := by
  intro j v hj
  rw [List.getElem?_drop] at hj
  have hlt := (List.getElem?_eq_some_iff.1 hj).1
  rw [if_neg (by omega)]
  obtain ⟨b, off, rfl, hb, hcell⟩ := h _ _ hj
  refine ⟨b, off + k, ?_, hb, by rw [Nat.add_assoc]; exact hcell⟩
  simp only [Option.map_some, Addr.add]
  split <;> simp_all
set_option maxHeartbeats 1600000 in
theorem between_walk (A : Option Addr) (len cap : Nat) (w : World) (l : List Int) (hlen : l.length = len) (hB : Byt l) (hr : RdB w w.heap.size A l) (hcap : len ≤ cap) (_hm : cap ≤ 9223372036854775807) :
    Calls Try.prog 4 #[.slice A len cap] w fun e w' => e = .returned (.bool true) ∧ Below w.heap.size w w' := by
  have H := Lib.hid hlen; have HR := Lib.hid hr; have HB := Lib.hid hB
  clear hlen hr hB
  by_cases hbig : 2000 < len
  · go_enter Try.func4, Try.ntmps4
    go_wp2_with fail
    refine (awake_any _).mono ?_
    rintro e w1 ⟨rfl, hb⟩
    have HB1 := Lib.hid hb
    clear hb
    go_wp2_with fail
    refine (awake_any _).mono ?_
    rintro e w2 ⟨rfl, hb⟩
    have HB2 := Lib.hid (below_up HB1.out hb)
    clear hb
    go_wp2_with fail
    go_ret
    exact ⟨rfl, HB2.out⟩
  · have hle : len ≤ 2000 := by omega
    have hcn : cnt l ≤ len := by rw [← H.out]; exact cnt_le l
    clear hbig
    go_enter Try.func4, Try.ntmps4
    go_wp2_with fail
    refine (awake_any _).mono ?_
    rintro e w2 ⟨rfl, hb⟩
    have HB2 := Lib.hid hb
    have HR2 := Lib.hid (HR.out.up hb)
    clear hb
    go_wp2_with fail
    go_loopw [3, 4] (fun a i wr => ∃ j α : Nat, j ≤ cnt l ∧ α ≤ len ∧ Hid (cnt (l.take α) = j) ∧ a = .int .i64 α ∧ i = .int .i64 ((j : Int) + 1) ∧ Below w2.heap.size w2 wr) (fun _ i _ => cnt l + 1 - (intOf i).toNat)
    case atStart => exact ⟨0, 0, Nat.zero_le _, Nat.zero_le _, Lib.hid rfl, rfl, rfl, Below.refl _ _⟩
    case round =>
      obtain ⟨j, α, hj, hα, hcα, rfl, rfl, hb⟩ := hrel
      have HBel := Lib.hid hb
      have HR3 := Lib.hid (HR2.out.up hb)
      clear hb
      by_cases hlt : j < cnt l
      · go_wp2_with fail
        refine (Count_any A len cap _ l H.out HB.out HR3.out).mono ?_
        rintro e w4 ⟨rfl, hb⟩
        have HR4 := Lib.hid (HR3.out.up hb)
        have HB4 := Lib.hid (below_up HBel.out hb)
        clear hb
        go_wp2_with fail
        refine (Start_yes A len cap j _ _ l H.out HR4.out (by omega) hlt rfl).mono ?_
        rintro e w5 ⟨⟨p, hp, rfl⟩, rfl⟩
        have hpl := hp.lt
        have hp1 : p + 1 ≤ len := by have := H.out; omega
        have hαp : α ≤ p := by
          have := hp.ahead (at_ := α)
          have := hcα.out
          omega
        have hs := hp.succ
        obtain ⟨b, off, rfl, hbb, hcell⟩ := HR4.out p 10 hp.1
        have hcut := HR4.out.cutFrom α cap (by rw [H.out]; exact hcap)
        rw [if_neg (by omega)] at hcut
        have hadd : (⟨b, off, none⟩ : Addr).add α = ⟨b, off + α, none⟩ := by unfold Addr.add; split <;> simp_all
        simp only [Option.map_some, hadd] at hcut
        have hcnt1 : cnt ((l.drop α).take (p + 1 - α)) = 1 := by
          have h1 : l.take (p+1) = l.take α ++ (l.drop α).take (p + 1 - α) := by
            rw [← List.take_append_drop α (l.take (p+1)), List.take_take, Nat.min_eq_left (by omega), List.drop_take]
          have h2 := congrArg cnt h1
          rw [hs, cnt_append, hcα.out] at h2
          omega
        have HCut := Lib.hid (hcut.takeB (p + 1 - α))
        have HC1 := Lib.hid hcnt1
        have HCl : Hid (((l.drop α).take (p + 1 - α)).length = p + 1 - α) := Lib.hid (by rw [List.length_take, List.length_drop, H.out]; omega)
        have HS := Lib.hid hs
        have hne : (cap = α) = False := by simp; omega
        clear hcut hcnt1 hs hp hpl hadd
        go_wp2_with fail
        refine (Count_any (some ⟨b, off + α, none⟩) (p + 1 - α) _ _ ((l.drop α).take (p + 1 - α)) HCl.out ((HB.out.drop α).take _) HCut.out).mono ?_
        rintro e w6 ⟨rfl, hb⟩
        rw [HC1.out]
        have HB6 := Lib.hid (below_up HB4.out hb)
        clear hb
        go_wp2_with fail
        go_roundw
        case rel => exact ⟨j+1, p+1, by omega, by omega, Lib.hid HS.out, by go_num, by go_num, HB6.out⟩
        case measure => simp [intOf]; omega
      · obtain rfl : j = cnt l := by omega
        clear hlt hj
        have hc0 : cnt (l.drop α) = 0 := by
          have h1 : cnt l = cnt (l.take α) + cnt (l.drop α) := by rw [← cnt_append, List.take_append_drop]
          have := hcα.out
          omega
        have HC0 := Lib.hid hc0
        go_wp2_with fail
        refine (Count_any A len cap _ l H.out HB.out HR3.out).mono ?_
        rintro e w4 ⟨rfl, hb⟩
        have HCut := Lib.hid ((HR3.out.up hb).cutFrom α cap (by rw [H.out]; exact hcap))
        have HB4 := Lib.hid (below_up HBel.out hb)
        have HCl : Hid ((l.drop α).length = len - α) := Lib.hid (by rw [List.length_drop, H.out])
        clear hb hc0
        obtain ⟨Ae, hAe, hAer⟩ : ∃ Ae, (if cap = α then A else A.map (fun x => x.add α)) = Ae ∧ Hid (RdB w4 w4.heap.size Ae (l.drop α)) := ⟨_, rfl, HCut⟩
        clear HCut
        go_wp2_with (rw [hAe])
        refine (Count_any Ae (len - α) _ _ (l.drop α) HCl.out (HB.out.drop α) hAer.out).mono ?_
        rintro e w6 ⟨rfl, hb⟩
        rw [HC0.out]
        have HB6 := Lib.hid (below_up HB2.out (below_up HB4.out hb))
        clear hb
        go_wp2_with fail
        go_ret
        exact ⟨rfl, HB6.out⟩
end Go.Proofs.Ytnfipflodhnbhaa
