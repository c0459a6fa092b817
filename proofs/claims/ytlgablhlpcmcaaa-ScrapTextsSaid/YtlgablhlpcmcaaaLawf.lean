/-
  That the law ScrapAsks returns true, for every list, every place and all sources (the list of at most 5 times 2^40 scraps).
-/
import Derived.Test.YtlgablhlpcmcaaaLawe
namespace Go.Proofs.Ytlgablhlpcmcaaa
open Go.RowKit
theorem SameB_true (A : Option Addr) (len cap : Nat) (A2 : Option Addr) (len2 cap2 : Nat) (w : World) (l : List Int) (hlen : l.length = len) (hr : RdB w w.heap.size A l) (hm : len ≤ 9223372036854775807) (hlen2 : len2 = len) (hr2 : RdB w w.heap.size A2 l) :
    Calls Try.prog 21 #[.slice A len cap, .slice A2 len2 cap2] w fun e w' => e = .returned (.bool true) ∧ Below w.heap.size w w' := by
  subst hlen2
  have H := Lib.hid hlen; have HR := Lib.hid hr; have HR2 := Lib.hid hr2
  clear hlen hr hr2
  go_enter Try.func21, Try.ntmps21
  go_wp2_with fail
  go_loopw [5] (fun i wr => ∃ k : Nat, k ≤ len2 ∧ i = .int .i64 k ∧ Below w.heap.size w wr) (fun i _ => len2 - (intOf i).toNat)
  case atStart => exact ⟨0, Nat.zero_le _, rfl, Below.refl _ _⟩
  case round =>
    obtain ⟨k, hk, rfl, hb⟩ := hrel
    by_cases hlt : k < len2
    · obtain ⟨s, hs⟩ := get_some l k (by have := H.out; omega)
      obtain ⟨b, off, rfl, hb', h0⟩ := HR.out.below hb (by omega) k s hs
      obtain ⟨b2, off2, rfl, hb2', g0⟩ := HR2.out.below hb (by omega) k s hs
      clear hs
      go_wp2_with fail
      go_quiet (fail)
      go_wp2_with fail
      go_roundw
      case rel => exact ⟨k+1, by omega, by go_num, belowDrewN hb _⟩
      case measure => simp [intOf]; omega
    · obtain rfl : k = len2 := by omega
      clear hlt
      go_wp2_with fail
      go_ret
      exact ⟨rfl, hb⟩
theorem TextE_bd (srcs : List (List Int)) (l : List S) : 0 ≤ TextE srcs l ∧ TextE srcs l ≤ 6 := by
  unfold TextE
  split
  · induction l with
    | nil => simp [textE]
    | cons a l ih =>
      rename_i h
      rw [textE]
      split
      · decide
      · split
        · decide
        · exact ih ⟨h.1.tail, by have h1 := h.1 a (by simp); unfold okS at h1; have := h.2; simp only [tot] at this; omega⟩
  · decide
theorem finds_uniq {l : List S} {at_ : Int} {k : Nat} {s : S} (h : Ok l) (hF : Finds l at_ k s) (j : Nat) (t : S) (ht : l[j]? = some t) (hjk : j < k) : tot (l.take j) + t.len ≤ at_ := by
  have h1 := tot_take_succ l j t ht
  have h2 : tot (l.take (j+1)) ≤ tot (l.take k) := by
    have h3 := tot_take_le (l.take k) (h.take k) (j+1)
    rw [List.take_take, Nat.min_eq_left (by omega)] at h3
    exact h3
  have := hF.2.1
  omega
/-- What Find answers. -/
def FindR (l : List S) (at_ : Int) (i ahead : Int) (ok : Bool) : Prop :=
  (ok = true ∧ ∃ k s, Finds l at_ k s ∧ i = (k : Nat) ∧ ahead = tot (l.take k) ∧ MayP l) ∨ (ok = false ∧ i = 0 ∧ ahead = 0 ∧ ¬ (MayP l ∧ 0 ≤ at_ ∧ at_ < tot l))
theorem Find_any (A : Option Addr) (len cap : Nat) (at_ : Int) (w : World) (l : List S) (hlen : l.length = len) (hr : Rd w w.heap.size A l) (hm : len ≤ 9223372036854775807) (b0 : -9223372036854775808 ≤ at_) (b1 : at_ ≤ 9223372036854775807) :
    Calls Try.prog 30 #[.slice A len cap, .int .i64 at_] w fun e w' => (∃ i ahead ok, FindR l at_ i ahead ok ∧ e = .returned (.tuple #[.int .i64 i, .int .i64 ahead, .bool ok])) ∧ Below w.heap.size w w' := by
  by_cases hy : MayP l ∧ 0 ≤ at_ ∧ at_ < tot l
  · obtain ⟨hM, x0, x1⟩ := hy
    exact (Find_yes A len cap at_ w l hlen hr hm hM x0 x1).mono fun e w' ⟨⟨k, s, hF, he⟩, hb⟩ => ⟨⟨_, _, _, .inl ⟨rfl, k, s, hF, rfl, rfl, hM⟩, he⟩, hb⟩
  · exact (Find_no A len cap at_ w l hlen hr hm hy b0 b1).mono fun e w' ⟨he, hb⟩ => ⟨⟨_, _, _, .inr ⟨rfl, rfl, rfl, hy⟩, he⟩, hb⟩
set_option maxHeartbeats 1600000 in
set_option maxRecDepth 100000 in
theorem asks_walk (A : Option Addr) (len cap : Nat) (at_ : Int) (As : Option Addr) (ns cs : Nat) (w : World) (l : List S) (hlen : l.length = len) (hr : Rd w w.heap.size A l) (hnone : A = none → len = 0 ∧ cap = 0) (hm : (len + 2) * 24 ≤ 140737488355328) (a0 : -9223372036854775808 ≤ at_) (a1 : at_ ≤ 9223372036854775807)
    (srcs : List (List Int)) (hls : srcs.length = ns) (hrs : RdBL w w.heap.size As srcs) (hms : ns ≤ 9223372036854775807) :
    Calls Try.prog 7 #[.slice A len cap, .int .i64 at_, .slice As ns cs] w fun e w' => e = .returned (.bool true) ∧ Below w.heap.size w w' := by
  have H := Lib.hid hlen; have HR := Lib.hid hr; have HN := Lib.hid hnone
  have HLS := Lib.hid hls; have HRS := Lib.hid hrs
  clear hlen hr hnone hls hrs
  have hHf : Hid ((MayP l ∧ 0 ≤ at_ ∧ at_ < tot l) ∨ ¬ (MayP l ∧ 0 ≤ at_ ∧ at_ < tot l)) := Lib.hid (Classical.em _)
  obtain ⟨TE, hTE⟩ : ∃ TE, TE = TextE srcs l := ⟨_, rfl⟩
  obtain ⟨E0, E1⟩ := TextE_bd srcs l
  rw [← hTE] at E0 E1
  have HTE := Lib.hid hTE
  clear hTE
  obtain ⟨mb, hmb⟩ : ∃ mb, mb = mayB l := ⟨_, rfl⟩
  have HMB := Lib.hid hmb
  clear hmb
  go_enter Try.func7, Try.ntmps7
  go_wp2_with fail
  refine (Lent_any A len cap _ l H.out HR.out HN.out hm).mono ?_
  rintro e w1 ⟨⟨ga, ca, rfl, hown⟩, hb⟩
  have hca := hown.cap
  have K1 := Lib.hid (⟨hb, HR.out.up hb, hown.rd⟩ : Kp w w1 A l (some ⟨ga, 0, none⟩) (l ++ mk2))
  have S1 := Lib.hid (HRS.out.up hb)
  unfold maxLen at hca
  obtain ⟨hca1, hca2⟩ := hca
  clear hb hown
  go_wp2_with fail
  refine (refMay_any A len cap _ l H.out K1.out.r (by omega)).mono ?_
  rintro e w2 ⟨rfl, hb⟩
  rw [← HMB.out]
  have K2 := Lib.hid (K1.out.up hb)
  have S2 := Lib.hid (S1.out.up hb)
  clear hb
  go_wp2_with fail
  refine (awake_any _).mono ?_
  rintro e w3 ⟨rfl, hb⟩
  have K3 := Lib.hid (K2.out.up hb)
  have S3 := Lib.hid (S2.out.up hb)
  clear hb
  go_wp2_with fail
  refine (may_any _ len ca _ l H.out K3.out.g.left (by omega)).mono ?_
  rintro e w4 ⟨rfl, hb⟩
  rw [← HMB.out]
  have K4 := Lib.hid (K3.out.up hb)
  have S4 := Lib.hid (S3.out.up hb)
  clear hb
  go_wp2_with fail
  refine (Find_any _ len ca at_ _ l H.out K4.out.g.left (by omega) a0 a1).mono ?_
  rintro e w5 ⟨⟨fi, fah, fok, hF, rfl⟩, hb⟩
  have HF := Lib.hid hF
  have K5 := Lib.hid (K4.out.up hb)
  have S5 := Lib.hid (S4.out.up hb)
  clear hb hF hHf
  go_wp2_with fail
  refine (Text_any _ len ca As ns cs _ l srcs H.out K5.out.g.left (by omega) HLS.out S5.out hms).mono ?_
  rintro e w6 ⟨⟨A6, m6, c6, rfl, hown⟩, hb⟩
  rw [← HTE.out]
  have HO6 := Lib.hid hown
  have hm6 : m6 ≤ 9223372036854775807 := by have := hown.cap; unfold maxLen at this; omega
  have K6 := Lib.hid (K5.out.up hb)
  have S6 := Lib.hid (S5.out.up hb)
  clear hb hown
  go_wp2_with fail
  refine (refText_any A len cap As ns cs _ l srcs H.out K6.out.r (by omega) HLS.out S6.out hms).mono ?_
  rintro e w7 ⟨⟨A7, m7, c7, rfl, hown⟩, hb⟩
  rw [← HTE.out]
  have HM7 := Lib.hid (hown.1.symm.trans HO6.out.1)
  have HO7 := Lib.hid hown
  have HT7 := Lib.hid (HO6.out.rd.up hb)
  have K7 := Lib.hid (K6.out.up hb)
  clear hb hown
  go_wp2_with fail
  refine (SameB_true A6 m6 c6 A7 m7 c7 _ (TextL srcs l) HO6.out.1 HT7.out hm6 HM7.out HO7.out.rd).mono ?_
  rintro e w8 ⟨rfl, hb⟩
  have K8 := Lib.hid (K7.out.up hb)
  clear hb
  go_wp2_with fail
  refine (Kept_any _ len ca A cap _ l H.out K8.out.g (by omega) (by omega) K8.out.r).mono ?_
  rintro e w9 ⟨rfl, hb⟩
  have K9 := Lib.hid (K8.out.up hb)
  clear hb
  cases mb with
  | false =>
    have hM : ¬ MayP l := fun h => by have := HMB.out; rw [mayB_of h] at this; cases this
    have hF2 : fok = false ∧ fi = 0 ∧ fah = 0 := by
      rcases HF.out with ⟨_, k, s, _, _, _, h⟩ | ⟨h1, h2, h3, _⟩
      · exact absurd h hM
      · exact ⟨h1, h2, h3⟩
    obtain ⟨rfl, rfl, rfl⟩ := hF2
    have hS : sizeL l = 0 := if_neg hM
    have hJ : JoinL l = [] := if_neg hM
    have HS := Lib.hid hS; have HJ := Lib.hid hJ
    clear hM hS hJ
    go_wp2_with fail
    refine (Size_any _ len ca _ l H.out K9.out.g.left (by omega)).mono ?_
    rintro e w10 ⟨rfl, hb⟩
    rw [HS.out]
    have K10 := Lib.hid (K9.out.up hb)
    clear hb
    go_wp2_with fail
    refine (Join_any _ len ca _ l H.out K10.out.g.left (by omega)).mono ?_
    rintro e w11 ⟨⟨A11, m11, c11, rfl, hown⟩, hb⟩
    rw [HJ.out] at hown
    have hm11 : m11 = 0 := hown.1.symm
    subst hm11
    have K11 := Lib.hid (K10.out.up hb)
    clear hb hown
    go_wp2_with fail
    go_ret
    exact ⟨rfl, K11.out.b⟩
  | true =>
    have hM : MayP l := mayB_iff.1 HMB.out.symm
    have hS : sizeL l = tot l := if_pos hM
    have hJ : JoinL l = joinL l := if_pos hM
    have t0 := tot_nonneg l hM.1
    have t1 := hM.2
    have HS := Lib.hid hS; have HJ := Lib.hid hJ; have HM := Lib.hid hM
    clear hM hS hJ
    go_wp2_with fail
    refine (Size_any _ len ca _ l H.out K9.out.g.left (by omega)).mono ?_
    rintro e w10 ⟨rfl, hb⟩
    rw [HS.out]
    have K10 := Lib.hid (K9.out.up hb)
    clear hb
    go_wp2_with fail
    refine (refSize_any A len cap _ l H.out K10.out.r HM.out.1 HM.out.2).mono ?_
    rintro e w11 ⟨rfl, hb⟩
    have K11 := Lib.hid (K10.out.up hb)
    clear hb
    go_wp2_with fail
    refine (Join_any _ len ca _ l H.out K11.out.g.left (by omega)).mono ?_
    rintro e w12 ⟨⟨A12, m12, c12, rfl, hown⟩, hb⟩
    rw [HJ.out] at hown
    have HO12 := Lib.hid hown
    have hm12 : m12 ≤ 9223372036854775807 := by have := hown.cap; unfold maxLen at this; omega
    have K12 := Lib.hid (K11.out.up hb)
    clear hb hown
    go_wp2_with fail
    refine (refJoin_any A len cap _ l H.out K12.out.r HM.out.1 HM.out.2).mono ?_
    rintro e w13 ⟨⟨A13, m13, c13, rfl, hown⟩, hb⟩
    have HM13 := Lib.hid (hown.1.symm.trans HO12.out.1)
    have HO13 := Lib.hid hown
    have HJ13 := Lib.hid (HO12.out.rd.up hb)
    have K13 := Lib.hid (K12.out.up hb)
    clear hb hown
    go_wp2_with fail
    refine (Same_true A12 m12 c12 A13 m13 c13 _ (joinL l) HO12.out.1 HJ13.out hm12 HM13.out HO13.out.rd).mono ?_
    rintro e w14 ⟨rfl, hb⟩
    have K14 := Lib.hid (K13.out.up hb)
    clear hb
    go_wp2_with fail
    refine (Kept_any _ len ca A cap _ l H.out K14.out.g (by omega) (by omega) K14.out.r).mono ?_
    rintro e w15 ⟨rfl, hb⟩
    have K15 := Lib.hid (K14.out.up hb)
    clear hb
    rcases HF.out with ⟨rfl, k0, s0, hFs, rfl, rfl, _⟩ | ⟨rfl, rfl, rfl, hno⟩
    · have f1 := hFs.2.1
      have f2 := hFs.2.2
      have hk0 : k0 < len := by have := (List.getElem?_eq_some_iff.1 hFs.1).1; have := H.out; omega
      have q0 := tot_nonneg _ (HM.out.1.take k0)
      have q1 := tot_take_le l HM.out.1 k0
      have HFs := Lib.hid hFs
      clear hFs
      go_wp2_with fail
      go_loopw [16, 17] (fun s i wr => ∃ k : Nat, k ≤ k0 ∧ i = .int .i64 k ∧ s = .int .i64 (tot (l.take k)) ∧ Below w15.heap.size w15 wr) (fun _ i _ => len - (intOf i).toNat)
      case atStart => exact ⟨0, Nat.zero_le _, rfl, rfl, Below.refl _ _⟩
      case round =>
        obtain ⟨k, hk, rfl, rfl, hb⟩ := hrel
        have p1 := tot_take_le l HM.out.1 k
        have p0 := tot_nonneg (l.take k) (HM.out.1.take k)
        obtain ⟨s, hs⟩ := get_some l k (by have := H.out; omega)
        have e1 := tot_take_succ l k s hs
        have qq := tot_take_le l HM.out.1 (k+1)
        have q2 := (HM.out.1.at_ hs).2.2.2.1
        obtain ⟨b, off, rfl, hb', h0, h1, h2⟩ := K15.out.r.below hb (Nat.le_refl _) k s hs
        have q3 : tot (l.take k) + s.len ≤ 1099511627776 := by omega
        have HB16 := Lib.hid (below_up K15.out.b hb)
        by_cases hkk : k = k0
        · subst hkk
          have hss : s = s0 := by have := HFs.out.1; rw [hs] at this; exact (Option.some.inj this)
          subst hss
          clear hs hb e1 hk
          go_wp2_with fail
          go_ret
          exact ⟨rfl, HB16.out⟩
        · have hbef := finds_uniq HM.out.1 HFs.out k s hs (by omega)
          have E1 := Lib.hid e1
          have HBel := Lib.hid hb
          clear hs hb e1
          go_wp2_with fail
          go_roundw
          case rel => exact ⟨k+1, by omega, by go_num, by rw [E1.out], HBel.out⟩
          case measure => simp [intOf]; omega
    · have hno' : at_ < 0 ∨ tot l ≤ at_ := by
        have : ¬ (0 ≤ at_ ∧ at_ < tot l) := fun h => hno ⟨HM.out, h⟩
        omega
      clear hno
      go_wp2_with fail
      go_loopw [16, 17] (fun s i wr => ∃ k : Nat, k ≤ len ∧ i = .int .i64 k ∧ s = .int .i64 (tot (l.take k)) ∧ Below w15.heap.size w15 wr) (fun _ i _ => len - (intOf i).toNat)
      case atStart => exact ⟨0, Nat.zero_le _, rfl, rfl, Below.refl _ _⟩
      case round =>
        obtain ⟨k, hk, rfl, rfl, hb⟩ := hrel
        have p1 := tot_take_le l HM.out.1 k
        have p0 := tot_nonneg (l.take k) (HM.out.1.take k)
        by_cases hlt : k < len
        · obtain ⟨s, hs⟩ := get_some l k (by have := H.out; omega)
          have e1 := tot_take_succ l k s hs
          have qq := tot_take_le l HM.out.1 (k+1)
          have q2 := (HM.out.1.at_ hs).2.2.2.1
          obtain ⟨b, off, rfl, hb', h0, h1, h2⟩ := K15.out.r.below hb (Nat.le_refl _) k s hs
          have q3 : tot (l.take k) + s.len ≤ 1099511627776 := by omega
          have q4 : at_ < 0 ∨ tot (l.take k) + s.len ≤ at_ := by omega
          have E1 := Lib.hid e1
          have HBel := Lib.hid hb
          clear hs hb e1 hno'
          rcases q4 with q4 | q4
          · go_wp2_with fail
            go_roundw
            case rel => exact ⟨k+1, by omega, by go_num, by rw [E1.out], HBel.out⟩
            case measure => simp [intOf]; omega
          · go_wp2_with fail
            go_roundw
            case rel => exact ⟨k+1, by omega, by go_num, by rw [E1.out], HBel.out⟩
            case measure => simp [intOf]; omega
        · obtain rfl : k = len := by omega
          clear hlt
          go_wp2_with fail
          go_ret
          exact ⟨rfl, below_up K15.out.b hb⟩
end Go.Proofs.Ytlgablhlpcmcaaa
