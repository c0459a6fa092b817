/-
  The law TailPlays returns true.
-/
import Derived.Test.YtlplhllcohoeaaaSte
import Derived.BigQuiet
namespace Go.Proofs.Ytlplhllcohoeaaa
open Go.RowKit
/-- A call that came in. -/
structure CallV where
  kind : Int
  at_ : Int
  n : Int
  A : Option Addr
  m : Nat
  c : Nat
  b : List Int
  PA : Option Addr
  pm : Nat
  pc : Nat
  xs : List Int
def RdC (w : World) (B : Nat) (A : Option Addr) (l : List CallV) : Prop := ∀ k s, l[k]? = some s → ∃ b off, A = some ⟨b, off, none⟩ ∧ b < B ∧
  w.cell? ⟨b, off + k * 5, none⟩ = some (.int .i64 s.kind) ∧ w.cell? ⟨b, off + k * 5 + 1, none⟩ = some (.int .i64 s.at_) ∧ w.cell? ⟨b, off + k * 5 + 2, none⟩ = some (.int .i64 s.n) ∧ w.cell? ⟨b, off + k * 5 + 3, none⟩ = some (.slice s.A s.m s.c) ∧ w.cell? ⟨b, off + k * 5 + 4, none⟩ = some (.slice s.PA s.pm s.pc) ∧
  CallIn B w s.at_ s.n s.A s.m s.c s.b s.PA s.pm s.xs
theorem CallIn.below {B : Nat} {w w' : World} {at_ n : Int} {A : Option Addr} {m c : Nat} {b : List Int} {PA : Option Addr} {pm : Nat} {xs : List Int} (h : CallIn B w at_ n A m c b PA pm xs) (hb : Below B w w') : CallIn B w' at_ n A m c b PA pm xs :=
  ⟨h.a0, h.n0, h.hb, h.rd.below hb (Nat.le_refl _), h.no, h.x, h.hp, fun k v hv => by
    obtain ⟨g, off, e, hg, hc⟩ := h.rp k v hv
    exact ⟨g, off, e, hg, (hb.cell (p := ⟨g, off + k, none⟩) hg).trans hc⟩⟩
section
variable {B : Nat} {w w' : World} {sb : Nat} {room : Int} {N : Nat} {dn : Bool}
theorem St.drew (h : St B w sb room N dn) : St B w.drew sb room N dn := by
  obtain ⟨db, tb, l, sf, T, Ah, ch, As, cs, hs⟩ := h
  exact ⟨db, tb, l, sf, T, Ah, ch, As, cs, hs.drewN 1⟩
theorem step_any (h : St B w sb room N dn) (s : CallV) (hc : CallIn B w s.at_ s.n s.A s.m s.c s.b s.PA s.pm s.xs) (hN : N ≤ 900000) (hB : B ≤ w.heap.size) :
    ∃ dn', Calls Try.prog 21 #[.pointer (some ⟨sb, 0, none⟩), .agg #[.int .i64 s.kind, .int .i64 s.at_, .int .i64 s.n, .slice s.A s.m s.c, .slice s.PA s.pm s.pc]] w fun e w' => e = .returned (.bool true) ∧ St B w' sb room (N + 600) dn' ∧ Below B w w' := by
  obtain ⟨db, tb, l, sf, T, Ah, ch, As, cs, hs⟩ := h
  obtain ⟨k, at_, n, A, m, c, b, PA, pm, pc, xs⟩ := s
  simp only at hc ⊢
  rcases (by omega : k = 1 ∨ k = 2 ∨ k = 3 ∨ k = 4 ∨ k = 5 ∨ k = 6 ∨ (k < 1 ∨ 6 < k)) with rfl | rfl | rfl | rfl | rfl | rfl | hk
  · exact step_append hs at_ n A m c b PA pm pc xs hc hN hB
  · exact ⟨dn, step_read hs at_ n A m c b PA pm pc xs hc hB⟩
  · exact step_back hs at_ n A m c b PA pm pc xs hc hN hB
  · exact step_sync hs at_ n A m c PA pm pc hN hB
  · exact ⟨dn, step_arm hs at_ n A m c b PA pm pc xs hc hB⟩
  · exact ⟨false, step_open hs at_ n A m c b PA pm pc xs hc hN hB⟩
  · exact ⟨dn, step_other hs k at_ n hk A m c PA pm pc hB⟩
end
/-- Behind the first k operations of a region that draws its order: the others in the text's order, in every world of a class. -/
theorem wpAny_rest {P : Program} {md : Region.Mode} {xs : List Oper} {C : World → Prop} {Q' : Exit → Act → World → Prop} {fuel : Nat} {listed : Array Bool} {a : Act} {w : World} (k : Nat) (hs : Region.noSelect xs.toArray = true) (hf : fuel = (xs.drop k).length)
    (hB : Region.lexFrom md xs.toArray (xs.drop k).length k listed = true) (hC : C w) (h : wpQuiet P xs.toArray C (fun a' => ∀ w', C w' → Q' .normal a' w') (xs.drop k) a) : wpAny P md xs.toArray Q' fuel listed a w := by
  refine wpAny_of_quiet (C := C) (Q := fun a' => ∀ w', C w' → Q' .normal a' w') (fun _ w' hw' h => h w' hw') _ _ _ _ hC ?_
  rw [hf]
  exact wpAnyQ_lex hs (xs.drop k) k listed a (fun j => by rw [List.getElem?_drop]; simp) hB h
/-- The worlds that came of one. -/
def Qs (w : World) : Type := { W : World // Below w.heap.size w W }
instance (w : World) : Nonempty (Qs w) := ⟨⟨w, Below.refl _ _⟩⟩
set_option maxRecDepth 40000 in
set_option maxHeartbeats 4000000 in
theorem plays_walk (room : Int) (A : Option Addr) (len cap : Nat) (w : World) (l : List CallV) (hlen : l.length = len) (hr : RdC w w.heap.size A l) (x0 : -9223372036854775808 ≤ room) (x1 : room ≤ 9223372036854775807) (hm : len ≤ 9223372036854775807) :
    Calls Try.prog 5 #[.int .i64 room, .slice A len cap] w fun e w' => e = .returned (.bool true) ∧ Below w.heap.size w w' := by
  have HL := Lib.hid hlen
  have HR := Lib.hid hr
  have hr0 := Int.emod_nonneg room (show (3000 : Int) ≠ 0 by omega)
  have hr1 := Int.emod_lt_of_pos room (show (0 : Int) < 3000 by omega)
  clear hlen hr
  go_enter Try.func5, Try.ntmps5
  go_wp2_with fail
  refine (Pick_any room 3000 w (by omega) (by omega) x0 x1).mono ?_
  rintro e w0 ⟨rfl, rfl⟩
  generalize room % 3000 = rm at *
  go_wp2_with fail
  refine (Cp.first w rm hr0 (by omega)).mono ?_
  rintro e w1 ⟨db, T, rfl, hc, hb1⟩
  have HC := Lib.hid hc
  have HB1 := Lib.hid hb1
  have hz1 := hb1.size
  clear hc hb1
  go_wp2_with fail
  refine (HC.out.open (by omega) hz1).mono ?_
  rintro e w2 ⟨tb, T2, rfl, ht, hf⟩
  have HT := Lib.hid ht
  have HB2 := Lib.hid (HB1.out.trans (hf.below (by omega) (fun g hg hx => by
    obtain ⟨_, _, _, _, _, _, _, _, _, _, hlow⟩ := HC.out
    have := hlow g hx
    omega)))
  have hz2 := hf.size
  clear ht hf HC HB1
  go_wp2_with fail
  refine (awake_any w2).mono ?_
  rintro e w3 ⟨rfl, hb3⟩
  have HT3 := Lib.hid (HT.out.up hb3)
  have HB3 := Lib.hid (HB2.out.trans (hb3.mono (by omega)))
  have hz3 := hb3.size
  clear hb3 HT HB2
  have hb4 : Below w3.heap.size w3 (w3.alloc (.cells #[.pointer (some ⟨db, 0, none⟩), .pointer (some ⟨tb, 0, none⟩), .slice none 0 0, .slice none 0 0] 49)) := (Below.refl _ _).alloc (Nat.le_refl _) _
  have HST : Hid (St w.heap.size (w3.alloc (.cells #[.pointer (some ⟨db, 0, none⟩), .pointer (some ⟨tb, 0, none⟩), .slice none 0 0, .slice none 0 0] 49)) w3.heap.size rm (600 * (0 + 1)) false) := Lib.hid
    ⟨db, tb, [], [], T2, none, 0, none, 0, heap_alloc_new _ _, HT3.out.up hb4, fun hx => Nat.lt_irrefl _ (HT3.out.lt _ hx), by omega, ⟨OwnB.nil _ _, fun a e => by cases e⟩, ⟨OwnB.nil _ _, fun a e => by cases e⟩⟩
  have HB4 : Hid (Below w.heap.size w (w3.alloc (.cells #[.pointer (some ⟨db, 0, none⟩), .pointer (some ⟨tb, 0, none⟩), .slice none 0 0, .slice none 0 0] 49))) := Lib.hid (HB3.out.trans (hb4.mono (by omega)))
  clear hb4 HT3 HB3
  go_wp2_with fail
  generalize w3.heap.size = sb at *
  generalize w3.alloc (.cells #[.pointer (some ⟨db, 0, none⟩), .pointer (some ⟨tb, 0, none⟩), .slice none 0 0, .slice none 0 0] 49) = w4 at *
  go_loopw [10] (fun i wr => ∃ (k : Nat) (dn : Bool), k ≤ len ∧ k ≤ 80 ∧ i = .int .i64 k ∧ Hid (St w.heap.size wr sb rm (600 * (k + 1)) dn) ∧ Hid (Below w.heap.size w wr)) (fun i _ => 100 - (intOf i).toNat)
  case atStart => exact ⟨0, _, Nat.zero_le _, Nat.zero_le _, rfl, HST, HB4⟩
  case round =>
    clear HST HB4
    obtain ⟨k, dn, hk, hk80, rfl, HS, HB⟩ := hrel
    by_cases h1 : k < len
    · by_cases h2 : k < 80
      · obtain ⟨s, hs⟩ := get_some l k (by rw [HL.out]; exact h1)
        obtain ⟨b, off, rfl, hbb, c0, c1, c2, c3, c4, hci⟩ := HR.out k s hs
        have hsz := HB.out.size
        have e0 := (HB.out.cell (p := ⟨b, off + k * 5, none⟩) hbb).trans c0
        have e1 := (HB.out.cell (p := ⟨b, off + k * 5 + 1, none⟩) hbb).trans c1
        have e2 := (HB.out.cell (p := ⟨b, off + k * 5 + 2, none⟩) hbb).trans c2
        have e3 := (HB.out.cell (p := ⟨b, off + k * 5 + 3, none⟩) hbb).trans c3
        have e4 := (HB.out.cell (p := ⟨b, off + k * 5 + 4, none⟩) hbb).trans c4
        have HBD : Hid (Below w.heap.size w wr.drew) := Lib.hid (belowDrewN HB.out 1)
        obtain ⟨dn', hC⟩ := step_any HS.out.drew s (hci.below HBD.out) (by omega) (by show w.heap.size ≤ wr.heap.size; omega)
        have HC := Lib.hid hC
        have hzd : w.heap.size ≤ wr.drew.heap.size := hsz
        clear hC hci c0 c1 c2 c3 c4 hbb hs
        obtain ⟨kind, at_, n, A, m, c, bb, PA, pm, pc, xs⟩ := s
        simp only at *
        have HK1 : Hid (k ≤ len ∧ k < 80 ∧ w.heap.size ≤ wr.drew.heap.size) := Lib.hid ⟨hk, h2, hzd⟩
        cases dn'
        · go_wp2_with fail
          clear hzd hsz hk hk80 h2 x0 x1 hm hr0 hr1 hz1 hz2 hz3 HS HB HL HR
          refine wp_region_any (by kernel_rfl) ?_
          change wpAny _ _ _ _ _ _ _ (World.drew _)
          refine wpAny_take (i := 0) (v := .pointer (some ⟨sb, 0, Option.none⟩)) rfl (by kernel_rfl) (by kernel_rfl) (by kernel_rfl) (fun _ _ _ h => h) (Or.inl ⟨by rfl, by intro w; go_simp⟩) ?_
          refine wpAny_take (i := 1) (v := .slice (some ⟨b, off, Option.none⟩) len cap) rfl (by kernel_rfl) (by kernel_rfl) (by kernel_rfl) (fun _ _ _ h => h) (Or.inl ⟨by rfl, by intro w; go_simp⟩) ?_
          refine wpAny_take (i := 2) (v := .int .i64 k) rfl (by kernel_rfl) (by kernel_rfl) (by kernel_rfl) (fun _ _ _ h => h) (Or.inl ⟨by rfl, by intro w; go_simp⟩) ?_
          refine wpAny_take (i := 3) (v := .pointer (some ⟨b, off + k * 5, Option.none⟩)) rfl (by kernel_rfl) (by kernel_rfl) (by kernel_rfl) (fun _ _ _ h => h) (Or.inl ⟨by rfl, by intro w; go_simp⟩) ?_
          refine wpAny_ready (rs := [4]) (by kernel_rfl) (by simp) ?_
          refine AllReady.cons rfl (fun K hK => ?_) AllReady.nil
          go_simp
          refine hK _ _ ?_
          clear hK K
          refine wpAny_ready (rs := [5]) (by kernel_rfl) (by simp) ?_
          refine AllReady.cons rfl (fun K hK => ?_) AllReady.nil
          go_simp
          refine HC.out.mono ?_
          rintro e w5 ⟨rfl, hst, hb5⟩
          obtain ⟨db5, tb5, l5, sf5, T5, Ah5, ch5, As5, cs5, hv5⟩ := hst
          have HV := Lib.hid hv5
          have HBn := Lib.hid (HBD.out.trans hb5)
          have HZ5 : Hid (w.heap.size ≤ w5.heap.size) := Lib.hid (Nat.le_trans HK1.out.2.2 hb5.size)
          have hl5 := hv5.len.1
          have s1 : ∀ q : Qs w5, q.1.cell? ⟨sb, 1, Option.none⟩ = some (.pointer (some ⟨tb5, 0, Option.none⟩)) := fun q => (HV.out.up q.2).cells.2.1
          have s0 : ∀ q : Qs w5, q.1.cell? ⟨sb, 0, Option.none⟩ = some (.pointer (some ⟨db5, 0, Option.none⟩)) := fun q => (HV.out.up q.2).cells.1
          have s2 : ∀ q : Qs w5, q.1.cell? ⟨sb, 2, Option.none⟩ = some (.slice Ah5 l5.length ch5) := fun q => (HV.out.up q.2).cells.2.2.1
          clear hv5 hb5
          refine hK _ _ ?_
          clear hK K
          refine wpAny_take (i := 6) (v := .bool false) rfl (by kernel_rfl) (by kernel_rfl) (by kernel_rfl) (fun _ _ _ h => h) (Or.inl ⟨by rfl, by intro w; go_simp⟩) ?_
          refine wpAny_take (i := 7) (v := .bool false) rfl (by kernel_rfl) (by kernel_rfl) (by kernel_rfl) (fun _ _ _ h => h) (Or.inl ⟨by rfl, by intro w; go_simp⟩) ?_
          refine wpAny_rest (C := fun W => ∃ q : Qs w5, W = q.1) 8 (by kernel_rfl) (by kernel_rfl) (by kernel_rfl) ⟨⟨w5, Below.refl _ _⟩, rfl⟩ ?_
          simp only [List.drop_succ_cons, List.drop_zero]
          have hLen : ∀ q : Qs w5, Calls Try.prog 11 #[.pointer (some ⟨tb5, 0, Option.none⟩)] q.1 fun e w'' => e = .returned (.int .i64 l5.length) ∧ ∃ q' : Qs w5, w'' = q'.1 := fun q => (HV.out.up q.2).tp.length.mono (fun e w'' h => ⟨h.1, q, h.2.symm⟩)
          have hDown : ∀ q : Qs w5, Calls Try.prog 22 #[.pointer (some ⟨db5, 0, Option.none⟩)] q.1 fun e w'' => e = .returned (.bool false) ∧ ∃ q' : Qs w5, w'' = q'.1 := fun q => (HV.out.up q.2).tp.down.mono (fun e w'' h => ⟨h.1, q, h.2.symm⟩)
          have hRead : ∀ q : Qs w5, Calls Try.prog 23 #[.pointer (some ⟨sb, 0, Option.none⟩), .int .i64 0, .int .i64 l5.length] q.1 fun e w'' => e = .returned (.bool true) ∧ ∃ q' : Qs w5, w'' = q'.1 := fun q => (read_any (HV.out.up q.2) 0 l5.length (by omega) (by omega) (by omega) (by omega)).mono (fun e w'' h => ⟨h.1, ⟨w'', q.2.trans (h.2.mono q.2.size)⟩, rfl⟩)
          quiet_step (fail)
          repeat (go_big_quiet_step (first | exact hLen _ | exact hDown _ | exact hRead _))
          refine wpQuiet_nil ?_
          rintro _ ⟨q, rfl⟩
          have HQ := Lib.hid ((HV.out.up q.2).more (N' := 600 * (k + 1 + 1)) (by omega))
          have HBQ := Lib.hid (HBn.out.trans (q.2.mono HZ5.out))
          clear s0 s1 s2 hLen hDown hRead HBn HV
          generalize q.1 = w6 at *
          go_wp2_with fail
          go_roundw
          case rel => exact ⟨k + 1, _, by have := HK1.out; omega, by have := HK1.out; omega, by go_num, Lib.hid ⟨_, _, _, _, _, _, _, _, _, HQ.out⟩, HBQ⟩
          case measure => have := HK1.out; simp [intOf]; omega
        · go_wp2_with fail
          clear hzd hsz hk hk80 h2 x0 x1 hm hr0 hr1 hz1 hz2 hz3 HS HB HL HR
          refine wp_region_any (by kernel_rfl) ?_
          change wpAny _ _ _ _ _ _ _ (World.drew _)
          refine wpAny_take (i := 0) (v := .pointer (some ⟨sb, 0, Option.none⟩)) rfl (by kernel_rfl) (by kernel_rfl) (by kernel_rfl) (fun _ _ _ h => h) (Or.inl ⟨by rfl, by intro w; go_simp⟩) ?_
          refine wpAny_take (i := 1) (v := .slice (some ⟨b, off, Option.none⟩) len cap) rfl (by kernel_rfl) (by kernel_rfl) (by kernel_rfl) (fun _ _ _ h => h) (Or.inl ⟨by rfl, by intro w; go_simp⟩) ?_
          refine wpAny_take (i := 2) (v := .int .i64 k) rfl (by kernel_rfl) (by kernel_rfl) (by kernel_rfl) (fun _ _ _ h => h) (Or.inl ⟨by rfl, by intro w; go_simp⟩) ?_
          refine wpAny_take (i := 3) (v := .pointer (some ⟨b, off + k * 5, Option.none⟩)) rfl (by kernel_rfl) (by kernel_rfl) (by kernel_rfl) (fun _ _ _ h => h) (Or.inl ⟨by rfl, by intro w; go_simp⟩) ?_
          refine wpAny_ready (rs := [4]) (by kernel_rfl) (by simp) ?_
          refine AllReady.cons rfl (fun K hK => ?_) AllReady.nil
          go_simp
          refine hK _ _ ?_
          clear hK K
          refine wpAny_ready (rs := [5]) (by kernel_rfl) (by simp) ?_
          refine AllReady.cons rfl (fun K hK => ?_) AllReady.nil
          go_simp
          refine HC.out.mono ?_
          rintro e w5 ⟨rfl, hst, hb5⟩
          obtain ⟨db5, tb5, l5, sf5, T5, Ah5, ch5, As5, cs5, hv5⟩ := hst
          have HV := Lib.hid hv5
          have HBn := Lib.hid (HBD.out.trans hb5)
          have HZ5 : Hid (w.heap.size ≤ w5.heap.size) := Lib.hid (Nat.le_trans HK1.out.2.2 hb5.size)
          have hl5 := hv5.len.1
          have s1 : ∀ q : Qs w5, q.1.cell? ⟨sb, 1, Option.none⟩ = some (.pointer (some ⟨tb5, 0, Option.none⟩)) := fun q => (HV.out.up q.2).cells.2.1
          have s0 : ∀ q : Qs w5, q.1.cell? ⟨sb, 0, Option.none⟩ = some (.pointer (some ⟨db5, 0, Option.none⟩)) := fun q => (HV.out.up q.2).cells.1
          have s2 : ∀ q : Qs w5, q.1.cell? ⟨sb, 2, Option.none⟩ = some (.slice Ah5 l5.length ch5) := fun q => (HV.out.up q.2).cells.2.2.1
          clear hv5 hb5
          refine hK _ _ ?_
          clear hK K
          refine wpAny_take (i := 6) (v := .bool false) rfl (by kernel_rfl) (by kernel_rfl) (by kernel_rfl) (fun _ _ _ h => h) (Or.inl ⟨by rfl, by intro w; go_simp⟩) ?_
          refine wpAny_take (i := 7) (v := .bool false) rfl (by kernel_rfl) (by kernel_rfl) (by kernel_rfl) (fun _ _ _ h => h) (Or.inl ⟨by rfl, by intro w; go_simp⟩) ?_
          refine wpAny_rest (C := fun W => ∃ q : Qs w5, W = q.1) 8 (by kernel_rfl) (by kernel_rfl) (by kernel_rfl) ⟨⟨w5, Below.refl _ _⟩, rfl⟩ ?_
          simp only [List.drop_succ_cons, List.drop_zero]
          have hLen : ∀ q : Qs w5, Calls Try.prog 11 #[.pointer (some ⟨tb5, 0, Option.none⟩)] q.1 fun e w'' => e = .returned (.int .i64 l5.length) ∧ ∃ q' : Qs w5, w'' = q'.1 := fun q => (HV.out.up q.2).tp.length.mono (fun e w'' h => ⟨h.1, q, h.2.symm⟩)
          have hDown : ∀ q : Qs w5, Calls Try.prog 22 #[.pointer (some ⟨db5, 0, Option.none⟩)] q.1 fun e w'' => e = .returned (.bool true) ∧ ∃ q' : Qs w5, w'' = q'.1 := fun q => (HV.out.up q.2).tp.down.mono (fun e w'' h => ⟨h.1, q, h.2.symm⟩)
          quiet_step (fail)
          repeat (go_big_quiet_step (first | exact hLen _ | exact hDown _))
          refine wpQuiet_nil ?_
          rintro _ ⟨q, rfl⟩
          have HQ := Lib.hid ((HV.out.up q.2).more (N' := 600 * (k + 1 + 1)) (by omega))
          have HBQ := Lib.hid (HBn.out.trans (q.2.mono HZ5.out))
          clear s0 s1 s2 hLen hDown HBn HV
          generalize q.1 = w6 at *
          go_wp2_with fail
          go_roundw
          case rel => exact ⟨k + 1, _, by have := HK1.out; omega, by have := HK1.out; omega, by go_num, Lib.hid ⟨_, _, _, _, _, _, _, _, _, HQ.out⟩, HBQ⟩
          case measure => have := HK1.out; simp [intOf]; omega
      · obtain rfl : k = 80 := by omega
        clear h2
        go_wp2_with fail
        go_ret
        exact ⟨rfl, HB.out⟩
    · obtain rfl : k = len := by omega
      clear h1
      go_wp2_with fail
      go_ret
      exact ⟨rfl, HB.out⟩
end Go.Proofs.Ytlplhllcohoeaaa
