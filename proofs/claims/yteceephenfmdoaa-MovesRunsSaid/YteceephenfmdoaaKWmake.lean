/-
  Make: a plan for a target.
-/
import Derived.Test.YteceephenfmdoaaKMakes
namespace Go.Proofs.Yteceephenfmdoaa
open Go.RowKit
def MakeR (w : World) (l : List S) (most : Nat) (e : Ending) (w' : World) : Prop :=
  (∃ p : PlV, e = .returned (.tuple #[.agg p.cells, .int .i64 0]) ∧ PlOk w' w'.heap.size p ∧ MakeP l most p.pln) ∧ Below w.heap.size w w'
theorem Wk.rebase {w : World} {B0 g sb rb : Nat} {u : Int → Option StV} {rd : Int → Int} {SA : Option Addr} {sc : Nat} {stash : List R} (h : Wk w B0 g sb rb u rd SA sc stash none 0 []) {cs : Array Value} {p : Nat × Nat} (hx : w.heap[B0]? = some (.cells cs 32 p)) : Wk w (B0 + 1) g sb rb u rd SA sc stash none 0 [] := by
  obtain ⟨es1, c1, m1⟩ := h.steps.heap
  obtain ⟨es2, c2, m2⟩ := h.readers.heap
  have h1 := h.lg
  have n1 : g ≠ B0 := fun e => by have h2 := h.box; rw [e, hx] at h2; injection h2 with h2; injection h2 with _ h2; cases h2
  have n2 : sb ≠ B0 := fun e => by rw [e, hx] at m1; cases m1
  have n3 : rb ≠ B0 := fun e => by rw [e, hx] at m2; cases m2
  exact ⟨h.box, h.steps, h.readers, h.ne, by omega, h.st, OwnS.nil _ _, h.us, h.os⟩
/-- A stash of a target's bytes is small. -/
theorem stash_small {l : List S} {size : Int} (hT : TargetP l size) (hs : 0 ≤ size ∧ size ≤ 1048576) (hq : size ≤ 100000 ∨ Sc.tot l ≤ 100000) (_ht : Sc.tot l ≤ 200000) {stash : List R} (hR : Right stash) (hI : ∀ x, In stash x → 0 ≤ x ∧ Need l x) : stash.length ≤ 100000 ∧ IR stash ∧ tot stash ≤ 1048576 ∧ ∀ r ∈ stash, r.2 ≤ 1048576 := by
  have h1 := right_to hR (fun x hx => hT.need (hI x hx).2)
  have h2 := right_len stash (-1) hR
  have h3 := stash_le hT.may.1 hR (fun x hx => (hI x hx).2)
  have h4 := mine_le_tot hT.may.1
  have h5 := right_tot_le hR size hs.1 (fun r hr => (h1 r hr).2)
  refine ⟨by omega, fun r hr => ?_, by omega, fun r hr => by have := (h1 r hr).2; omega⟩
  have h6 := h1 r hr
  have h7 := right_mem hR hr
  unfold I64
  omega
set_option maxRecDepth 100000 in
set_option maxHeartbeats 4000000 in
theorem make_ok (A : Option Addr) (len cap : Nat) (l : List S) (size : Int) (most : Nat) (w : World) (hlen : l.length = len) (hr : Sc.Rd w w.heap.size A l) (hT : TargetP l size) (hs : 0 ≤ size ∧ size ≤ 1048576) (hm : 1 ≤ most ∧ most ≤ 64) (ht : Sc.tot l ≤ 200000) (hq : size ≤ 100000 ∨ Sc.tot l ≤ 100000) :
    Calls Try.prog 15 #[.slice A len cap, .int .i64 size, .int .i64 most] w fun e w' => MakeR w l most e w' := by
  have HL := Lib.hid hlen
  have HR := Lib.hid hr
  have HT := Lib.hid hT
  have hll : len ≤ 200000 := by have := Sc.len_le_tot _ hT.may.1; omega
  have hl9 : len ≤ 9223372036854775807 := by omega
  have HMB := Lib.hid (mayB_of hT.may)
  have hb1 : Below w.heap.size w (w.alloc (.cells #[.int .i64 0, .slice none 0 0, .slice none 0 0] 32)) := (Below.refl _ _).alloc (Nat.le_refl _) _
  have HX1 : Hid ((w.alloc (.cells #[.int .i64 0, .slice none 0 0, .slice none 0 0] 32)).heap[w.heap.size]? = some (.cells #[.int .i64 0, .slice none 0 0, .slice none 0 0] 32 (0, 0))) := Lib.hid (heap_alloc_new w _)
  have HB1 := Lib.hid hb1
  clear hlen hr hT hb1
  have m1 : ¬ (most : Int) < 1 := by omega
  have m2 : ¬ (64 : Int) < (most : Int) := by omega
  have m3 : (1 : Int) ≤ (most : Int) := by omega
  have m4 : (most : Int) ≤ 64 := by omega
  go_enter Try.func15, Try.ntmps15
  go_wp2_with fail
  generalize w.alloc (.cells #[.int .i64 0, .slice none 0 0, .slice none 0 0] 32) = W1 at *
  refine (Sc.may_any A len cap W1 l HL.out (HR.out.up HB1.out) hl9).mono ?_
  rw [HMB.out]
  rintro e w2 ⟨rfl, hb2⟩
  have HB2 := Lib.hid (HB1.out.trans (hb2.mono HB1.out.size))
  have HX2 := Lib.hid ((hb2.block _ (Array.getElem?_eq_some_iff.1 HX1.out).1).trans HX1.out)
  clear hb2 HB1 HX1 HMB
  generalize hpb : w.heap.size = pb at *
  have HPB := Lib.hid hpb
  clear hpb
  go_wp2_with fail
  go_loopw [45] (fun i wr => ∃ k : Nat, k ≤ len ∧ i = .int .i64 k ∧ Hid (Below pb w wr ∧ wr.heap[pb]? = some (.cells #[.int .i64 0, .slice none 0 0, .slice none 0 0] 32 (0, 0)))) (fun i _ => len - (intOf i).toNat)
  case atStart => exact ⟨0, Nat.zero_le _, rfl, Lib.hid ⟨HB2.out, HX2.out⟩⟩
  case round =>
    clear HB2 HX2
    obtain ⟨k, hk, rfl, HI⟩ := hrel
    have hszr : pb ≤ wr.heap.size := by have := HI.out.1.size; have := HPB.out; omega
    by_cases hlt : k < len
    · obtain ⟨x, hx⟩ := get_some l k (by have := HL.out; omega)
      obtain ⟨b, off, rfl, hbb, c0, c1, c2⟩ := (HR.out.below HI.out.1 (by have := HPB.out; omega)) k x hx
      have hin := List.mem_of_getElem? hx
      have hxs := HT.out.src x hin
      have hxk := HT.out.may.1 x hin
      have HXK := Lib.hid hxk
      unfold Sc.okS at hxk
      have hb5 : Below wr.heap.size wr (wr.alloc (.cells #[.int .i64 x.src, .int .i64 x.at_, .int .i64 x.len] 48)) := (Below.refl _ _).alloc (Nat.le_refl _) _
      have HX5 := Lib.hid ((hb5.block _ (Array.getElem?_eq_some_iff.1 HI.out.2).1).trans HI.out.2)
      have HB5 := Lib.hid (HI.out.1.trans (hb5.mono hszr))
      clear hx hin hb5
      have f2 : (x.src == 2) = false := by simpa using hxs.1
      by_cases h0 : x.src = 0
      · have hfit := hxs.2 h0
        have f0 : (x.src == 0) = true := by simpa using h0
        have HWI : Hid ((decide (x.at_ ≤ size) && decide (x.len ≤ size - x.at_)) = true) := Lib.hid (by
          have h1 : x.at_ ≤ size := by omega
          have h2 : x.len ≤ size - x.at_ := by omega
          simp [h1, h2])
        clear hxs h0
        go_wp2_with fail
        refine (within_any x size _ HXK.out hs.1 (by omega)).mono ?_
        rw [HWI.out]
        rintro e w6 ⟨rfl, hb6⟩
        have HX6 := Lib.hid ((hb6.block _ (Array.getElem?_eq_some_iff.1 HX5.out).1).trans HX5.out)
        have HB6 := Lib.hid (HB5.out.trans (hb6.mono (by simp; omega)))
        clear hb6
        go_wp2_with fail
        go_roundw
        case measure => simp [intOf]; omega
        case rel => exact ⟨k + 1, by omega, by go_num, Lib.hid ⟨HB6.out, HX6.out⟩⟩
      · have f0 : (x.src == 0) = false := by simpa using h0
        clear hxs h0
        go_wp2_with fail
        go_roundw
        case measure => simp [intOf]; omega
        case rel => exact ⟨k + 1, by omega, by go_num, Lib.hid ⟨HB5.out, HX5.out⟩⟩
    · obtain rfl : k = len := by omega
      clear hlt hk
      have HSZ : Hid (Sc.sizeL l = Sc.tot l) := Lib.hid (if_pos HT.out.may)
      have ht0 := Sc.tot_nonneg l HT.out.may.1
      go_wp2_with fail
      refine (Sc.Size_any A k cap wr l HL.out ((HR.out.below HI.out.1 (by have := HPB.out; omega)).more hszr |> fun h => by obtain rfl := HPB.out; exact h) hl9).mono ?_
      rw [HSZ.out]
      rintro e w3 ⟨rfl, hb3⟩
      have HX3 := Lib.hid ((hb3.block _ (Array.getElem?_eq_some_iff.1 HI.out.2).1).trans HI.out.2)
      have HB3 := Lib.hid (HI.out.1.trans (hb3.mono hszr))
      have hsz3 : pb ≤ w3.heap.size := by have := hb3.size; omega
      clear hb3 HI hszr HSZ
      have hmm := @run_makeMap Try.prog
      have HN := Lib.hid (rfl : Sc.tot l = Sc.tot l)
      generalize hn : Sc.tot l = n at *
      have HN2 := Lib.hid hn
      clear hn
      go_upto_region 13 with (fail)
      have HWK : Hid (Wk (((w3.alloc (.map #[] 0)).alloc (.map #[] 0)).alloc (.cells #[.map (some w3.heap.size), .map (some (w3.heap.size + 1)), .slice none 0 0, .slice none 0 0] 81)) pb (w3.heap.size + 1 + 1) w3.heap.size (w3.heap.size + 1) (fun _ => none) (fun _ => 0) none 0 [] none 0 []) := Lib.hid (Wk.made w3 pb hsz3)
      have hb4 : Below w3.heap.size w3 (((w3.alloc (.map #[] 0)).alloc (.map #[] 0)).alloc (.cells #[.map (some w3.heap.size), .map (some (w3.heap.size + 1)), .slice none 0 0, .slice none 0 0] 81)) := (((Below.refl _ _).alloc (Nat.le_refl _) _).alloc (by simp) _).alloc (by simp; omega) _
      have HX4 := Lib.hid ((hb4.block _ (Array.getElem?_eq_some_iff.1 HX3.out).1).trans HX3.out)
      have HB4 := Lib.hid (HB3.out.trans (hb4.mono hsz3))
      have HRG : Hid (RdG (((w3.alloc (.map #[] 0)).alloc (.map #[] 0)).alloc (.cells #[.map (some w3.heap.size), .map (some (w3.heap.size + 1)), .slice none 0 0, .slice none 0 0] 81)) pb A l) := Lib.hid ⟨(HR.out.below HB4.out (by have := HPB.out; omega)).more (by have := HWK.out.base; have := HPB.out; omega), fun hl b hb => .inl (by
        obtain ⟨x, hx⟩ := get_some l 0 (List.length_pos_iff.2 hl)
        obtain ⟨b', off, e, hb', _⟩ := HR.out 0 x hx
        rw [e] at hb
        have := inA_some.1 hb
        have := HPB.out
        simp only at *
        omega)⟩
      clear hb4 HX3 HB3 hsz3 hmm
      generalize ((w3.alloc (.map #[] 0)).alloc (.map #[] 0)).alloc (.cells #[.map (some w3.heap.size), .map (some (w3.heap.size + 1)), .slice none 0 0, .slice none 0 0] 81) = W4 at *
      generalize w3.heap.size + 1 + 1 = g at *
      generalize w3.heap.size + 1 = rb at *
      generalize w3.heap.size = sb at *
      clear w3 HN
      obtain ⟨N, hN⟩ : ∃ N : Nat, blocksN n = N := ⟨(blocksN n).toNat, by unfold blocksN; omega⟩
      have hNb : ∀ j : Nat, j < N ↔ 64 * (j : Int) < n := fun j => by unfold blocksN at hN; omega
      have HNB := Lib.hid hNb
      have hNs : N ≤ 3126 := by unfold blocksN at hN; omega
      have HBN := Lib.hid hN
      have hn0 : n ≤ 1099511627776 := by omega
      clear hNb hN
      go_wp2_with fail
      refine (blocks_any n _ ht0 hn0).mono ?_
      rw [HBN.out]
      rintro e w5 ⟨rfl, rfl⟩
      go_wp2_with fail
      go_loopw [12, 77] (fun v i wx => ∃ (k : Nat) (RA : Option Addr) (rn rc : Nat) (rest : List S) (u : Int → Option StV), k ≤ N ∧ i = .int .i64 k ∧ v = .slice RA rn rc ∧ rn ≤ 200000 ∧ Hid (Wk wx pb g sb rb u (fun _ => 0) none 0 [] none 0 [] ∧ RdG wx pb RA rest ∧ rest.length = rn ∧ Sc.MayP rest ∧ Sc.bts rest = (Sc.bts l).drop (64 * k) ∧ U0 l k u ∧ Below pb w wx ∧ wx.heap[pb]? = some (.cells #[.int .i64 0, .slice none 0 0, .slice none 0 0] 32 (0, 0)))) (fun _ i _ => N - (intOf i).toNat)
      case atStart => exact ⟨0, A, k, cap, l, fun _ => none, Nat.zero_le _, rfl, rfl, hll, Lib.hid ⟨HWK.out, HRG.out, HL.out, HT.out.may, by simp, U0.zero l, HB4.out, HX4.out⟩⟩
      case round =>
        clear HWK HRG HX4 HB4
        obtain ⟨k2, RA, rn, rc, rest, u, hk2, rfl, rfl, hrn, HI⟩ := hrel
        by_cases hlt : k2 < N
        · have h64 : 64 * (k2 : Int) < n := (HNB.out k2).1 hlt
          have HCT := Lib.hid (cut_next HT.out.may HI.out.2.2.2.1 (by rw [HN2.out]; exact h64) HI.out.2.2.2.2.1 (rfl : min 64 (Sc.tot l - 64 * (k2 : Int)) = _))
          rw [HN2.out] at HCT
          have hrn9 : rn ≤ 9223372036854775807 := by omega
          have hkN : (k2 : Int) ≤ 1099511627776 := by omega
          go_wp2_with fail
          refine (length_any k2 n _ (by omega) hkN ht0 hn0).mono ?_
          rintro e w6 ⟨rfl, rfl⟩
          have hmin : 0 < min 64 (n - 64 * (k2 : Int)) ∧ min 64 (n - 64 * (k2 : Int)) ≤ 64 := by omega
          have HMN := Lib.hid (rfl : min 64 (n - 64 * (k2 : Int)) = min 64 (n - 64 * (k2 : Int)))
          generalize hmn : min 64 (n - 64 * (k2 : Int)) = mn at *
          clear HMN
          have HMN := Lib.hid hmn
          clear hmn
          go_wp2_with fail
          refine (Sc.Cut_any RA rn rc mn _ rest HI.out.2.2.1 HI.out.2.1.rd hrn9 (by omega) (by omega)).mono ?_
          rw [HCT.out.1]
          rintro e w7 ⟨⟨A1, n1, c1, A2, n2, c2, rfl, ho1, ho2⟩, hb7⟩
          have HO1 := Lib.hid ho1
          have HO2 := Lib.hid ho2
          have HW7 := Lib.hid (HI.out.1.up hb7)
          have HX7 := Lib.hid ((hb7.block _ (Array.getElem?_eq_some_iff.1 HI.out.2.2.2.2.2.2.2).1).trans HI.out.2.2.2.2.2.2.2)
          have HB7 := Lib.hid (HI.out.2.2.2.2.2.2.1.trans (hb7.mono HI.out.1.base))
          have HU := Lib.hid HI.out.2.2.2.2.2.1
          have hn1 := ho1.1
          have hn2 := ho2.1
          have hn1m : n1 ≤ 64 := by have h1 := Sc.len_le_tot _ HCT.out.2.1.1; have h2 := HCT.out.2.2.2.2.1; omega
          have hn2m : n2 ≤ 200000 := by
            have h1 := Sc.len_le_tot _ HCT.out.2.2.2.2.2.1.1
            have h2 := Sc.bts_length HCT.out.2.2.2.2.2.1.1
            rw [HCT.out.2.2.2.2.2.2, List.length_drop] at h2
            have h3 := Sc.bts_length HT.out.may.1
            have h4 := HN2.out
            omega
          have HN1 := Lib.hid hn1
          have HN2' := Lib.hid hn2
          have HST := Lib.hid (stays_iff HT.out.may (by rw [HN2.out]; exact h64) HCT.out.2.1 HCT.out.2.2.1 HCT.out.2.2.2.1 (by rw [HCT.out.2.2.2.2.1, HN2.out]; exact HMN.out.symm))
          clear ho1 ho2 hb7 hn1 hn2 HI
          generalize hcA : Sc.cutA rest mn = parts at *
          generalize hcB : Sc.cutB rest mn = rest2 at *
          clear hcA hcB
          go_upto_region 19 with (fail)
          have q9 : IntKind.i64.wrap ((k2 : Int) * 64) = 64 * (k2 : Int) := by rw [IntWalk.i64_in _ (by omega)]; omega
          go_cut [107] (fun v wx => v = .bool (staysB l k2) ∧ wx = w7)
          case first =>
            by_cases h1 : n1 = 1
            · obtain ⟨x, hx⟩ : ∃ x, parts = [x] := by
                have := HN1.out
                cases parts with
                | nil => simp at this; omega
                | cons x t => cases t with
                  | nil => exact ⟨x, rfl⟩
                  | cons y t => simp at this; omega
              subst hx
              subst h1
              obtain ⟨b, off, rfl, hbb, d0, d1, d2⟩ := HO1.out.rd 0 x rfl
              simp only [Nat.zero_mul, Nat.add_zero] at d0 d1 d2
              have hz : (0 : Nat) < 1 := by omega
              by_cases h2 : x.src = 0
              · have f2 : (x.src == 0) = true := by simpa using h2
                by_cases h3 : x.at_ = 64 * (k2 : Int)
                · have HV : Hid (true = staysB l k2) := Lib.hid (staysB_of (HST.out.2 ⟨x, rfl, h2, h3⟩)).symm
                  have f3 : (x.at_ == 64 * (k2 : Int)) = true := by simpa using h3
                  clear h2 h3
                  go_wp2_with fail
                  go_meet
                  exact ⟨congrArg Value.bool HV.out, rfl⟩
                · have HV : Hid (false = staysB l k2) := Lib.hid (staysB_not fun h => by
                    obtain ⟨y, e, _, e2⟩ := HST.out.1 h
                    simp at e; subst e; exact h3 e2).symm
                  have f3 : (x.at_ == 64 * (k2 : Int)) = false := by simpa using h3
                  clear h2 h3
                  go_wp2_with fail
                  go_meet
                  exact ⟨congrArg Value.bool HV.out, rfl⟩
              · have HV : Hid (false = staysB l k2) := Lib.hid (staysB_not fun h => by
                  obtain ⟨y, e, e1, _⟩ := HST.out.1 h
                  simp at e; subst e; exact h2 e1).symm
                have f2 : (x.src == 0) = false := by simpa using h2
                clear h2
                go_wp2_with fail
                go_meet
                exact ⟨congrArg Value.bool HV.out, rfl⟩
            · have HV : Hid (false = staysB l k2) := Lib.hid (staysB_not fun h => by
                obtain ⟨y, e, _⟩ := HST.out.1 h
                have := HN1.out
                rw [e] at this
                simp at this; omega).symm
              have f1 : ((n1 : Int) == 1) = false := by simp; omega
              clear h1
              go_wp2_with fail
              go_meet
              exact ⟨congrArg Value.bool HV.out, rfl⟩
          case rest =>
            obtain ⟨rfl, rfl⟩ := hcut
            have HR2 : Hid (RdG wc pb A2 rest2) := Lib.hid (RdG.of_own HO2.out)
            cases hsb : staysB l k2
            · have HSO : Hid (StepOf l ((k2 : Int), parts)) := Lib.hid ⟨by simp only; omega, by simp only; rw [HN2.out]; exact h64, HCT.out.2.1, HCT.out.2.2.1, by simpa using HCT.out.2.2.2.1, by simp only [Int.toNat_natCast]; exact fun h => by rw [staysB_of h] at hsb; cases hsb⟩
              have hstg := StG.of_own HO1.out (k2 : Int) (by unfold I64; omega) HCT.out.2.1 (by rw [HCT.out.2.2.2.2.1]; exact hmin.2)
              have hlen1 := HN1.out
              subst hlen1
              obtain ⟨w8, hput, hw8, hb8, hbs8⟩ := HW7.out.put (s := ⟨(k2 : Int), A1, c1, parts⟩) (by simp only; omega) (by simp only; omega) hstg
              simp only [stVal] at hput
              have hc0 := HW7.out.cells.1
              have HW8 := Lib.hid hw8
              have HX8 : Hid (w8.heap[pb]? = some (.cells #[.int .i64 0, .slice none 0 0, .slice none 0 0] 32 (0, 0))) := Lib.hid (HW7.out.boxS hbs8 HX7.out (by decide) inA_none)
              have HR8 := Lib.hid (HR2.out.bs HW7.out hb8 hbs8)
              have HB8 := Lib.hid (HB7.out.trans hb8)
              have HSU : Hid (U0 l (k2 + 1) (updS u (k2 : Int) (some ⟨(k2 : Int), A1, c1, parts⟩))) := Lib.hid (HU.out.put (s := ⟨(k2 : Int), A1, c1, parts⟩) rfl HSO.out)
              clear hsb hstg hw8 hb8 hbs8
              go_wp2_with fail
              go_roundw
              case measure => simp [intOf]; omega
              case rel => exact ⟨k2 + 1, A2, n2, c2, rest2, _, by omega, by go_num, rfl, hn2m, Lib.hid ⟨HW8.out, HR8.out, HN2'.out, HCT.out.2.2.2.2.2.1, HCT.out.2.2.2.2.2.2, HSU.out, HB8.out, HX8.out⟩⟩
            · have HSU := Lib.hid (HU.out.stay (staysB_iff.1 hsb))
              clear hsb
              go_wp2_with fail
              go_roundw
              case measure => simp [intOf]; omega
              case rel => exact ⟨k2 + 1, A2, n2, c2, rest2, u, by omega, by go_num, rfl, hn2m, Lib.hid ⟨HW7.out, HR2.out, HN2'.out, HCT.out.2.2.2.2.2.1, HCT.out.2.2.2.2.2.2, HSU.out, HB7.out, HX7.out⟩⟩
        · obtain rfl : k2 = N := by omega
          clear hlt
          have HUU := Lib.hid HI.out.2.2.2.2.2.1
          have HKB : Hid (∀ j s, u j = some s → (0 ≤ j ∧ j < 3126) ∧ s.blk = j ∧ ∀ x, Need s.parts x → x < size) := Lib.hid (fun j s hs => by
            obtain ⟨h1, h2, h3⟩ := HUU.out.step j s hs
            have h4 := h3.lo
            simp only [StV.st] at h4
            exact ⟨by omega, h2, fun x hx => HT.out.need (blk_need h3.may.1 HT.out.may.1 h3.bt hx)⟩)
          obtain ⟨w9, hrun, ⟨c0, hr9⟩, hg9, hs9⟩ := HI.out.1.steps.range map78
          have hc0 := HI.out.1.cells.1
          have hb9 : Below wr.heap.size wr w9 := ⟨hg9.os, hg9.tape, hg9.output, hg9.size, fun k hk => hg9.block k hk (by simp)⟩
          have HR9 := Lib.hid hr9
          have HW9 := Lib.hid (HI.out.1.up hb9)
          have HB9 := Lib.hid (HI.out.2.2.2.2.2.2.1.trans (hb9.mono HI.out.1.base))
          have HX9 := Lib.hid ((hb9.block _ (Array.getElem?_eq_some_iff.1 HI.out.2.2.2.2.2.2.2).1).trans HI.out.2.2.2.2.2.2.2)
          have HRK : Hid (wr.heap.size ≠ rb ∧ pb ≤ wr.heap.size ∧ sb ≠ rb) := Lib.hid ⟨fun e => by
            obtain ⟨es, c, h⟩ := HI.out.1.readers.heap
            have := (Array.getElem?_eq_some_iff.1 h).1
            omega, HI.out.1.base, HI.out.1.ne⟩
          clear hr9 hg9 hb9 hs9 HI
          go_wp2_with fail
          generalize wr.heap.size = rk at *
          clear hrun hc0
          go_loopg [18] c0 (fun gk _ wx => ∃ (L : List Int) (rd : Int → Int), Hid (VR wx Try.prog 3 sb rk 20000 (fun j => (u j).map stVal) L gk ∧ Wk wx pb g sb rb u rd none 0 [] none 0 [] ∧ (∀ k, 0 ≤ k → k < 20000 → rd k = cntL u [] L k) ∧ Below pb w wx ∧ wx.heap[pb]? = some (.cells #[.int .i64 0, .slice none 0 0, .slice none 0 0] 32 (0, 0))))
          case atStart => exact ⟨[], fun _ => 0, Lib.hid ⟨HR9.out, HW9.out, fun k _ _ => by simp [cntL], HB9.out, HX9.out⟩⟩
          case round =>
            clear HR9 HW9 HB9 HX9
            obtain ⟨L, rd, HI⟩ := hrel
            have hLn : L.length ≤ 20000 := by
              obtain ⟨_, _, _, _, _, hkk, _, hnd, hLm⟩ := HI.out.1
              exact below_len 20000 L hnd (fun j hj => hkk j (hLm j hj))
            rcases HI.out.1.next map78 0 (by unfold maxLen; omega) with ⟨hrun2, hz, hnd, hall⟩ | ⟨x, v, w3, c', hrun2, hx0, hx1, hxL, hux, hr3, hlt, hg3, hs3, hen⟩
            · have HALL : Hid (∀ j, (u j).isSome = true ↔ j ∈ L) := Lib.hid fun j => by rw [← hall j]; cases u j <;> rfl
              have HND := Lib.hid hnd
              clear hz hnd hall
              go_upto_region 30 with (fail)
              have HTS : Hid (TI u (fun c => ((0 : Nat) : Int) ≤ c) [] u rd [] []) := Lib.hid (TI.start HUU.out (fun j s hs => by
                obtain ⟨h1, h2, h3⟩ := HKB.out j s hs
                exact ⟨h1, h2, fun x hx => by have := h3 x hx; omega⟩) HND.out HALL.out HI.out.2.2.1)
              have HWA := Lib.hid (HI.out.2.1.rebase HI.out.2.2.2.2)
              have HBA := Lib.hid HI.out.2.2.2.1
              have HXA := Lib.hid HI.out.2.2.2.2
              clear hrun2 HALL HND HI
              go_wp2_with fail
              refine (blocks_any n _ ht0 hn0).mono ?_
              rw [HBN.out]
              rintro e w5 ⟨rfl, rfl⟩
              go_wp2_with fail
              go_loopw [144] (fun i wx => ∃ (k : Nat) (u3 : Int → Option StV) (rd3 : Int → Int) (OA : Option Addr) (oc : Nat) (order : List StV), k ≤ k2 ∧ i = .int .i64 k ∧ Hid (Wk wx (pb + 1) g sb rb u3 rd3 none 0 [] OA oc order ∧ TI u (fun c => (k : Int) ≤ c) [] u3 rd3 order [] ∧ Below pb w wx ∧ wx.heap[pb]? = some (.cells #[.int .i64 0, .slice none 0 0, .slice none 0 0] 32 (0, 0)))) (fun i _ => k2 - (intOf i).toNat)
              case atStart => exact ⟨0, u, rd, none, 0, [], Nat.zero_le _, rfl, Lib.hid ⟨HWA.out, HTS.out, HBA.out, HXA.out⟩⟩
              case round =>
                clear HTS HWA HBA HXA
                obtain ⟨k3, u3, rd3, OA3, oc3, order3, hk3, rfl, HI3⟩ := hrel
                by_cases hlt3 : k3 < k2
                · have hrd := HI3.out.1.readers.look (j := (k3 : Int)) (by omega) (by omega)
                  have hc1 := HI3.out.1.cells.2.1
                  by_cases h0 : rd3 k3 = 0
                  · have f0 : (rd3 k3 == 0) = true := by simpa using h0
                    have HGO := Lib.hid (HI3.out.2.1.go (by omega) h0)
                    clear h0
                    go_wp2_with fail
                    refine (take_any _ (pb + 1) g sb rb u (fun c => ((k3 + 1 : Nat) : Int) ≤ c) u3 rd3 none 0 [] OA3 oc3 order3 (k3 : Int) HI3.out.1 HGO.out (fun r hr => by cases hr) (by simp)).mono ?_
                    rintro e w7 ⟨rfl, u7, rd7, OA7, oc7, order7, hw7, ht7, hb7, _, _⟩
                    have HW7 := Lib.hid hw7
                    have HT7 := Lib.hid ht7
                    have HB7 := Lib.hid (HI3.out.2.2.1.trans (hb7.mono (Nat.le_succ pb)))
                    have HX7 : Hid (w7.heap[pb]? = some (.cells #[.int .i64 0, .slice none 0 0, .slice none 0 0] 32 (0, 0))) := Lib.hid ((hb7.block pb (Nat.lt_succ_self pb)).trans HI3.out.2.2.2)
                    clear hw7 ht7 hb7 HGO hrd hc1 HI3
                    go_wp2_with fail
                    go_roundw
                    case measure => simp [intOf]; omega
                    case rel => exact ⟨k3 + 1, u7, rd7, OA7, oc7, order7, by omega, by go_num, Lib.hid ⟨HW7.out, HT7.out, HB7.out, HX7.out⟩⟩
                  · have f0 : (rd3 k3 == 0) = false := by simpa using h0
                    have HSK := Lib.hid (HI3.out.2.1.skip h0)
                    have HW7 := Lib.hid HI3.out.1
                    have HB7 := Lib.hid HI3.out.2.2
                    clear h0 HI3
                    go_wp2_with fail
                    go_roundw
                    case measure => simp [intOf]; omega
                    case rel => exact ⟨k3 + 1, u3, rd3, OA3, oc3, order3, by omega, by go_num, Lib.hid ⟨HW7.out, HSK.out, HB7.out⟩⟩
                · obtain rfl : k3 = k2 := by omega
                  clear hlt3
                  have HKN : Hid (∀ j, (u j).isSome = true → j < (k3 : Int)) := Lib.hid (fun j hj => by
                    obtain ⟨s, hs⟩ := Option.isSome_iff_exists.1 hj
                    exact (HUU.out.step j s hs).1)
                  have HM4 := Lib.hid (M4.start HUU.out HKN.out (by rw [HN2.out]; exact HNB.out) HI3.out.2.1)
                  have HWA := Lib.hid HI3.out.1
                  have HBA := Lib.hid HI3.out.2.2.1
                  have HXA := Lib.hid HI3.out.2.2.2
                  clear HI3
                  go_wp2_with fail
                  refine (blocks_any n _ ht0 hn0).mono ?_
                  rw [HBN.out]
                  rintro e w5 ⟨rfl, rfl⟩
                  go_wp2_with fail
                  go_loopw [160] (fun i wx => ∃ (k : Nat) (u4 : Int → Option StV) (rd4 : Int → Int) (SA : Option Addr) (sc : Nat) (stash : List R) (OA : Option Addr) (oc : Nat) (order : List StV), k ≤ k3 ∧ i = .int .i64 k ∧ Hid (Wk wx (pb + 1) g sb rb u4 rd4 SA sc stash OA oc order ∧ M4 l k u u4 rd4 stash order ∧ Below pb w wx ∧ wx.heap[pb]? = some (.cells #[.int .i64 0, .slice none 0 0, .slice none 0 0] 32 (0, 0)))) (fun i _ => k3 - (intOf i).toNat)
                  case atStart => exact ⟨0, u3, rd3, none, 0, [], OA3, oc3, order3, Nat.zero_le _, rfl, Lib.hid ⟨HWA.out, HM4.out, HBA.out, HXA.out⟩⟩
                  case round =>
                    clear HWA HM4 HBA HXA
                    obtain ⟨k4, u4, rd4, SA, sc, stash, OA4, oc4, order4, hk4, rfl, HI4⟩ := hrel
                    by_cases hlt4 : k4 < k3
                    · have hlk := HI4.out.1.steps.look map78 (j := (k4 : Int)) (by unfold I64; omega)
                      have hc0 := HI4.out.1.cells.1
                      have HSM := Lib.hid (stash_small HT.out hs (by rw [HN2.out]; exact hq) (by rw [HN2.out]; exact ht) HI4.out.2.1.right HI4.out.2.1.ins)
                      cases hu : u4 (k4 : Int) with
                      | none =>
                        rw [hu] at hlk
                        simp only [Option.map_none, Option.getD_none, Option.isSome_none] at hlk
                        have HSK := Lib.hid (HI4.out.2.1.skip hu)
                        have hb5 : Below wr.heap.size wr (wr.alloc (.cells #[.int .i64 0, .slice none 0 0] 70)) := (Below.refl _ _).alloc (Nat.le_refl _) _
                        have HW5 := Lib.hid (HI4.out.1.up hb5)
                        have HX5 := Lib.hid ((hb5.block _ (Array.getElem?_eq_some_iff.1 HI4.out.2.2.2).1).trans HI4.out.2.2.2)
                        have HB5 := Lib.hid (HI4.out.2.2.1.trans (hb5.mono (by have := HI4.out.1.base; omega)))
                        clear hu hb5 HI4 HSM
                        go_wp2_with fail
                        go_roundw
                        case measure => simp [intOf]; omega
                        case rel => exact ⟨k4 + 1, u4, rd4, SA, sc, stash, OA4, oc4, order4, by omega, by go_num, Lib.hid ⟨HW5.out, HSK.out, HB5.out, HX5.out⟩⟩
                      | some s4 =>
                        rw [hu] at hlk
                        simp only [Option.map_some, Option.getD_some, Option.isSome_some] at hlk
                        have HU4 : Hid (u4 (k4 : Int) ≠ none) := Lib.hid (by rw [hu]; simp)
                        obtain ⟨blk, PA, pc, parts⟩ := s4
                        simp only [stVal] at hlk
                        have hb5 : Below wr.heap.size wr (wr.alloc (.cells #[.int .i64 blk, .slice PA parts.length pc] 70)) := (Below.refl _ _).alloc (Nat.le_refl _) _
                        have HW5 := Lib.hid (HI4.out.1.up hb5)
                        have HX5 := Lib.hid ((hb5.block _ (Array.getElem?_eq_some_iff.1 HI4.out.2.2.2).1).trans HI4.out.2.2.2)
                        have HB5 := Lib.hid (HI4.out.2.2.1.trans (hb5.mono (by have := HI4.out.1.base; omega)))
                        have HM := Lib.hid HI4.out.2.1
                        have HK32 : Hid (∀ j, (u4 j).isSome = true → j < 3200) := Lib.hid (fun j hj => by
                          obtain ⟨t, ht⟩ := Option.isSome_iff_exists.1 hj
                          have := (HKB.out j t (HM.out.ti.dom j t ht)).1
                          omega)
                        clear hu hb5 HI4
                        go_wp2_with fail
                        generalize wr.alloc (.cells #[.int .i64 blk, .slice PA parts.length pc] 70) = W5 at *
                        refine (free_any W5 (pb + 1) g sb rb u4 rd4 SA sc stash OA4 oc4 order4 (k4 : Int) HW5.out (by omega) HM.out.right HSM.out.2.1 HSM.out.1 HK32.out).mono ?_
                        rintro e w6 ⟨rfl, SA6, sc6, stash6, hw6, hs6, hb6⟩
                        have HFR := Lib.hid (HM.out.freed HUU.out HT.out.may (by omega) hs6)
                        have HSM6 := Lib.hid (stash_small HT.out hs (by rw [HN2.out]; exact hq) (by rw [HN2.out]; exact ht) HFR.out.2.1 HFR.out.2.2)
                        have HW6 := Lib.hid hw6
                        have HS6 := Lib.hid hs6
                        have HB6 := Lib.hid (HB5.out.trans (hb6.mono (Nat.le_succ pb)))
                        have HX6 : Hid (w6.heap[pb]? = some (.cells #[.int .i64 0, .slice none 0 0, .slice none 0 0] 32 (0, 0))) := Lib.hid ((hb6.block pb (Nat.lt_succ_self pb)).trans HX5.out)
                        clear hw6 hs6 hb6 HW5 HX5 HB5 HSM HK32 hlk hc0
                        go_wp2_with fail
                        refine (take_any _ (pb + 1) g sb rb u (fun _ => False) u4 _ SA6 sc6 stash6 OA4 oc4 order4 (k4 : Int) HW6.out HFR.out.1 HSM6.out.2.1 HSM6.out.1).mono ?_
                        rintro e w7 ⟨rfl, u7, rd7, OA7, oc7, order7, hw7, ht7, hb7, hn7, hz7⟩
                        have HM7 := Lib.hid (HM.out.took HUU.out (by rw [HN2.out]; exact HNB.out) HU4.out HS6.out ht7 HFR.out.2.1 HFR.out.2.2 hn7 hz7)
                        have HW7 := Lib.hid hw7
                        have HB7 := Lib.hid (HB6.out.trans (hb7.mono (Nat.le_succ pb)))
                        have HX7 : Hid (w7.heap[pb]? = some (.cells #[.int .i64 0, .slice none 0 0, .slice none 0 0] 32 (0, 0))) := Lib.hid ((hb7.block pb (Nat.lt_succ_self pb)).trans HX6.out)
                        clear hw7 ht7 hb7 hn7 hz7 HM HFR HSM6 HW6 HB6 HX6 HU4
                        go_wp2_with fail
                        go_roundw
                        case measure => simp [intOf]; omega
                        case rel => exact ⟨k4 + 1, u7, rd7, SA6, sc6, stash6, OA7, oc7, order7, by omega, by go_num, Lib.hid ⟨HW7.out, HM7.out, HB7.out, HX7.out⟩⟩
                    · obtain rfl : k4 = k3 := by omega
                      clear hlt4
                      have HSM := Lib.hid (stash_small HT.out hs (by rw [HN2.out]; exact hq) (by rw [HN2.out]; exact ht) HI4.out.2.1.right HI4.out.2.1.ins)
                      go_wp2_with fail
                      refine (plan_any _ (pb + 1) g sb rb u4 rd4 SA sc stash OA4 oc4 order4 n most HI4.out.1 HI4.out.2.1.right HSM.out.2.2.1 HSM.out.2.2.2 HSM.out.2.1 (by unfold I64; omega) hm HI4.out.2.1.ti.order_len).mono ?_
                      rintro e w8 ⟨p, rfl, hpk, hpp, hb8⟩
                      have HMP : Hid (MakeP l most p.pln) := Lib.hid (HI4.out.2.1.done HUU.out (by rw [HN2.out]; exact HNB.out) (by rw [HN2.out]; exact hpp))
                      have hx8 : w8.heap[pb]? = some (.cells #[.int .i64 0, .slice none 0 0, .slice none 0 0] 32 (0, 0)) := (hb8.block pb (Nat.lt_succ_self pb)).trans HI4.out.2.2.2
                      have hB8 : Below pb w w8 := HI4.out.2.2.1.trans (hb8.mono (Nat.le_succ pb))
                      clear HI4 HSM hpp hb8
                      have HPK := Lib.hid hpk
                      clear hpk
                      obtain ⟨pn, SA8, sc8, stash8, WA8, wc8, waves8⟩ := p
                      unfold PlV.cells
                      have p0 : w8.cell? ⟨pb, 0, none⟩ = some (.int .i64 0) := cell_of_row _ _ 0 _ 32 (0, 0) hx8
                      have p1 : w8.cell? ⟨pb, 1, none⟩ = some (.slice none 0 0) := cell_of_row _ _ 1 _ 32 (0, 0) hx8
                      have p2 : w8.cell? ⟨pb, 2, none⟩ = some (.slice none 0 0) := cell_of_row _ _ 2 _ 32 (0, 0) hx8
                      have z0 : w8.frozen? ⟨pb, 0, none⟩ = false := frozen_of_row _ _ 0 _ _ hx8
                      have z1 : w8.frozen? ⟨pb, 1, none⟩ = false := frozen_of_row _ _ 1 _ _ hx8
                      have z2 : w8.frozen? ⟨pb, 2, none⟩ = false := frozen_of_row _ _ 2 _ _ hx8
                      go_wp2_with fail
                      have hh := three_heap hx8 (.int .i64 pn) (.slice SA8 stash8.length sc8) (.slice WA8 waves8.length wc8)
                      have hsame : ∀ b, b ≠ pb → (((w8.setCell ⟨pb, 0, none⟩ (.int .i64 pn)).setCell ⟨pb, 1, none⟩ (.slice SA8 stash8.length sc8)).setCell ⟨pb, 2, none⟩ (.slice WA8 waves8.length wc8)).heap[b]? = w8.heap[b]? := fun b hb => by
                        rw [heap_setCell_other _ _ _ _ hb, heap_setCell_other _ _ _ _ hb, heap_setCell_other _ _ _ _ hb]
                      have hbel : Below pb w (((w8.setCell ⟨pb, 0, none⟩ (.int .i64 pn)).setCell ⟨pb, 1, none⟩ (.slice SA8 stash8.length sc8)).setCell ⟨pb, 2, none⟩ (.slice WA8 waves8.length wc8)) := ((hB8.setCell (p := ⟨pb, 0, none⟩) (Nat.le_refl _) _).setCell (p := ⟨pb, 1, none⟩) (Nat.le_refl _) _).setCell (p := ⟨pb, 2, none⟩) (Nat.le_refl _) _
                      have hpl := HPK.out (((w8.setCell ⟨pb, 0, none⟩ (.int .i64 pn)).setCell ⟨pb, 1, none⟩ (.slice SA8 stash8.length sc8)).setCell ⟨pb, 2, none⟩ (.slice WA8 waves8.length wc8)) ⟨by simp, fun b o hb ho => (hsame b (fun e => by
                        rw [e, hx8] at hb
                        injection hb with hb
                        exact ho _ _ hb.symm)).trans hb⟩
                      generalize ((w8.setCell ⟨pb, 0, none⟩ (.int .i64 pn)).setCell ⟨pb, 1, none⟩ (.slice SA8 stash8.length sc8)).setCell ⟨pb, 2, none⟩ (.slice WA8 waves8.length wc8) = wf at *
                      have e0 : wf.cell? ⟨pb, 0, none⟩ = some (.int .i64 pn) := cell_of_row _ _ 0 _ 32 (0, 0) hh
                      have e1 : wf.cell? ⟨pb, 1, none⟩ = some (.slice SA8 stash8.length sc8) := cell_of_row _ _ 1 _ 32 (0, 0) hh
                      have e2 : wf.cell? ⟨pb, 2, none⟩ = some (.slice WA8 waves8.length wc8) := cell_of_row _ _ 2 _ 32 (0, 0) hh
                      refine bodyPost_ret (v := .tuple #[.agg #[.int .i64 pn, .slice SA8 stash8.length sc8, .slice WA8 waves8.length wc8], .int .i64 0]) (by simp [results, Try.results15, go_sem, e0, e1, e2]) rfl ?_
                      obtain rfl := HPB.out
                      exact ⟨⟨⟨pn, SA8, sc8, stash8, WA8, wc8, waves8⟩, rfl, hpl, HMP.out⟩, hbel⟩
            · obtain ⟨s, hs', hsv⟩ := Option.map_eq_some_iff.1 hux
              subst hsv
              obtain ⟨xi, s0, e0, c00, hit⟩ := HI.out.1.iter
              obtain ⟨hw3, hb3⟩ := HI.out.2.1.next hit hg3 HRK.out.2.1
              have HX3 : Hid (w3.heap[pb]? = some (.cells #[.int .i64 0, .slice none 0 0, .slice none 0 0] 32 (0, 0))) := Lib.hid (((hg3.block pb (Array.getElem?_eq_some_iff.1 HI.out.2.2.2.2).1 (fun e => by
                injection e with e
                have h := HI.out.2.2.2.2
                rw [e, hit] at h
                cases h))).trans HI.out.2.2.2.2)
              have HB3 := Lib.hid (HI.out.2.2.2.1.trans hb3)
              have HW3 := Lib.hid hw3
              have HR3 := Lib.hid hr3
              have HRD := Lib.hid HI.out.2.2.1
              have HCN := Lib.hid (fun k => cntL_next (st := []) L hs' k)
              have HSK := Lib.hid (HKB.out x s hs')
              have HSG := Lib.hid (hw3.us x s hs').2
              clear HI hit hg3 hw3 hb3 hs3 hr3 hux hxL hs'
              obtain ⟨blk, PA, pc, parts⟩ := s
              unfold stVal at hrun2 hen
              simp only at hrun2 hen
              go_upto_region 25 with (fail)
              have hb4 : Below w3.heap.size w3 (w3.alloc (.cells #[.int .i64 blk, .slice PA parts.length pc] 70)) := (Below.refl _ _).alloc (Nat.le_refl _) _
              have HW4 := Lib.hid (HW3.out.up hb4)
              have HX4 := Lib.hid ((hb4.block _ (Array.getElem?_eq_some_iff.1 HX3.out).1).trans HX3.out)
              have HB4 := Lib.hid (HB3.out.trans (hb4.mono HW3.out.base))
              have HR4 := Lib.hid (HR3.out.kept (World.grownBy_alloc w3 (.cells #[.int .i64 blk, .slice PA parts.length pc] 70) none) (by simp) (by simp))
              have HS4 : Hid (StG (w3.alloc (.cells #[.int .i64 blk, .slice PA parts.length pc] 70)) ⟨blk, PA, pc, parts⟩) := Lib.hid (HSG.out.same hb4.size (fun b' cs p hb' => hb4.block b' (Array.getElem?_eq_some_iff.1 hb').1))
              have v0 : (w3.alloc (.cells #[.int .i64 blk, .slice PA parts.length pc] 70)).cell? ⟨w3.heap.size, 0, none⟩ = some (.int .i64 blk) := cell_new w3 _ 70 0
              have v1 : (w3.alloc (.cells #[.int .i64 blk, .slice PA parts.length pc] 70)).cell? ⟨w3.heap.size, 1, none⟩ = some (.slice PA parts.length pc) := cell_new w3 _ 70 1
              clear hb4 HX3 HB3 HW3 HR3 HSG hrun2 hen
              generalize w3.heap.size = vb at *
              generalize w3.alloc (.cells #[.int .i64 blk, .slice PA parts.length pc] 70) = W4 at *
              clear w3
              go_wp2_with fail
              refine (reads_any g blk PA parts.length pc parts none 0 0 [] W4 rfl HS4.out.ok.rd HS4.out.may.1 (by have := HS4.out.len; simp only at this; omega) HS4.out.ok.b HW4.out.cells.2.2.1 rfl (Rd.nil _ _ _) (fun r hr => by cases hr) (by omega) (fun x hx => by have := HSK.out.2.2 x hx; omega)).mono ?_
              rintro e w7 ⟨⟨A3, n3, c3, rfl, ho3⟩, hb7⟩
              have ho3' : OwnI w7 W4.heap.size A3 n3 c3 (readsOf [] ⟨blk, PA, pc, parts⟩) := ho3
              have hn3 : n3 ≤ 16384 := by have := readsOf_len (st := []) (s := ⟨blk, PA, pc, parts⟩) (fun x hx => by have := HSK.out.2.2 x hx; omega); have := ho3'.1; omega
              have HW7 := Lib.hid (HW4.out.up hb7)
              have HX7 := Lib.hid ((hb7.block _ (Array.getElem?_eq_some_iff.1 HX4.out).1).trans HX4.out)
              have HB7 := Lib.hid (HB4.out.trans (hb7.mono HW4.out.base))
              have HR7 : Hid (VR w7 Try.prog 3 sb rk 20000 (fun j => (u j).map stVal) (L ++ [x]) c') := Lib.hid (HR4.out.kept (row := none) ⟨hb7.os, hb7.tape, hb7.output, hb7.size, fun k hk _ => hb7.block k hk⟩ (by simp) (by simp))
              have HK7 := Lib.hid ho3'
              have HRN : Hid (∀ (i : Nat) k, (readsOf [] ⟨blk, PA, pc, parts⟩)[i]? = some k → (0 ≤ k ∧ k < 20000) ∧ 0 ≤ rd k ∧ rd k ≤ 20000 ∧ rdQ rd (readsOf [] ⟨blk, PA, pc, parts⟩) i k = rd k ∧ updI (rdQ rd (readsOf [] ⟨blk, PA, pc, parts⟩) i) k (rd k + 1) = rdQ rd (readsOf [] ⟨blk, PA, pc, parts⟩) (i + 1)) := Lib.hid (fun i k hk => by
                have h1 := readsOf_bound (fun x hx => by have := HSK.out.2.2 x hx; omega) (List.mem_of_getElem? hk)
                have hnd : (readsOf [] ⟨blk, PA, pc, parts⟩).Nodup := reads_nodup _ _ _
                have h2 := rdQ_next (rd := rd) hnd hk
                have h3 := HRD.out k (by omega) (by omega)
                have h4 := cntL_le u [] L k
                exact ⟨by omega, by omega, by omega, h2.1, h2.2⟩)
              have HEND : Hid (∀ k, 0 ≤ k → k < 20000 → rdQ rd (readsOf [] ⟨blk, PA, pc, parts⟩) (readsOf [] ⟨blk, PA, pc, parts⟩).length k = cntL u [] (L ++ [x]) k) := Lib.hid (fun k k0 k1 => by
                have h1 := HCN.out k
                have h2 := HRD.out k k0 k1
                unfold rdQ
                rw [List.take_length]
                by_cases hk : k ∈ readsOf [] ⟨blk, PA, pc, parts⟩
                · rw [if_pos hk] at h1 ⊢; omega
                · rw [if_neg hk] at h1 ⊢; omega)
              have HK0 : Hid (rdQ rd (readsOf [] ⟨blk, PA, pc, parts⟩) 0 = rd) := Lib.hid (by funext k; simp [rdQ])
              clear ho3 ho3' hb7 HW4 HX4 HB4 HR4 HS4 v0 v1 HRD HCN
              generalize readsOf [] ⟨blk, PA, pc, parts⟩ = K at *
              go_wp2_with fail
              go_loopw [130] (fun i wx => ∃ j : Nat, j ≤ n3 ∧ i = .int .i64 j ∧ Hid (VR wx Try.prog 3 sb rk 20000 (fun j => (u j).map stVal) (L ++ [x]) c' ∧ Wk wx pb g sb rb u (rdQ rd K j) none 0 [] none 0 [] ∧ OwnI wx W4.heap.size A3 n3 c3 K ∧ Below pb w wx ∧ wx.heap[pb]? = some (.cells #[.int .i64 0, .slice none 0 0, .slice none 0 0] 32 (0, 0)))) (fun i _ => n3 - (intOf i).toNat)
              case atStart => exact ⟨0, Nat.zero_le _, rfl, Lib.hid ⟨HR7.out, by rw [HK0.out]; exact HW7.out, HK7.out, HB7.out, HX7.out⟩⟩
              case round =>
                clear HW7 HX7 HB7 HR7 HK7 HK0
                obtain ⟨j, hj, rfl, HJ⟩ := hrel
                by_cases hlj : j < n3
                · obtain ⟨k, hk⟩ := get_some K j (by have := HJ.out.2.2.1.1; omega)
                  obtain ⟨kb, koff, rfl, hkb, k0⟩ := HJ.out.2.2.1.rd j k hk
                  obtain ⟨n1, n2, n4, n5, n6⟩ := HRN.out j k hk
                  have hc1 := HJ.out.2.1.cells.2.1
                  have hl1 := HJ.out.2.1.readers.look n1.1 n1.2
                  obtain ⟨w8, hst, hw8, hb8, hbs8, hg8⟩ := HJ.out.2.1.count n1.1 n1.2 (rd k + 1)
                  rw [n5] at hl1
                  rw [n6] at hw8
                  have q1 : IntKind.i64.wrap (rd k + 1) = rd k + 1 := IntWalk.i64_in _ (by omega)
                  have HW8 := Lib.hid hw8
                  have HK8 := Lib.hid (HJ.out.2.1.rowI hbs8 HJ.out.2.2.1)
                  have HB8 := Lib.hid (HJ.out.2.2.2.1.trans hb8)
                  have HX8 : Hid (w8.heap[pb]? = some (.cells #[.int .i64 0, .slice none 0 0, .slice none 0 0] 32 (0, 0))) := Lib.hid (HJ.out.2.1.boxS hbs8 HJ.out.2.2.2.2 (by decide) inA_none)
                  have HR8 := Lib.hid (HJ.out.1.kept hg8 (fun e => HRK.out.2.2 (Option.some.inj e)) (fun e => HRK.out.1 (Option.some.inj e)))
                  clear hk n5 n6 hw8 hb8 hbs8 hg8 HJ
                  go_wp2_with fail
                  go_roundw
                  case measure => simp [intOf]; omega
                  case rel => exact ⟨j + 1, by omega, by go_num, Lib.hid ⟨HR8.out, HW8.out, HK8.out, HB8.out, HX8.out⟩⟩
                · obtain rfl : j = n3 := by omega
                  clear hlj
                  have HKL := Lib.hid HJ.out.2.2.1.1
                  go_wp2_with fail
                  go_roundg c'
                  case measure => exact hlt
                  case rel => exact ⟨L ++ [x], rdQ rd K K.length, Lib.hid ⟨HJ.out.1, by rw [HKL.out]; exact HJ.out.2.1, HEND.out, HJ.out.2.2.2⟩⟩
end Go.Proofs.Yteceephenfmdoaa
