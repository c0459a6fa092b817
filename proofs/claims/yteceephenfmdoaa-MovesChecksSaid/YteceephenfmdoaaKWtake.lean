/-
  take: orders a step, and those that wait for nobody but it.
-/
import Derived.Test.YteceephenfmdoaaKTake
import Derived.Deep.AppendLies
import Derived.Deep.RegionLaw
import Derived.Deep.LoopGhost
namespace Go.Proofs.Yteceephenfmdoaa
open Go.RowKit
theorem info70 : (Try.prog.info? 70).map (fun i => (i.zero, i.size, i.bytes)) = some (some (.agg #[.int .i64 0, .slice none 0 0]), 2, 32) := by kernel_rfl
def TakeR (w : World) (B0 g sb rb : Nat) (u0 : Int → Option StV) (Z : Int → Prop) (u : Int → Option StV) (b : Int) (SA : Option Addr) (sc : Nat) (stash : List R) (e : Ending) (w' : World) : Prop :=
  e = .returned (.tuple #[]) ∧ ∃ u' rd' OA' oc' order', Wk w' B0 g sb rb u' rd' SA sc stash OA' oc' order' ∧ TI u0 Z stash u' rd' order' [] ∧ Below B0 w w' ∧ (∀ j, u j = none → u' j = none) ∧ u' b = none
set_option maxRecDepth 100000 in
set_option maxHeartbeats 4000000 in
theorem take_any (w : World) (B0 g sb rb : Nat) (u0 : Int → Option StV) (Z : Int → Prop) (u : Int → Option StV) (rd : Int → Int) (SA : Option Addr) (sc : Nat) (stash : List R) (OA : Option Addr) (oc : Nat) (order : List StV) (b : Int)
    (hW : Wk w B0 g sb rb u rd SA sc stash OA oc order) (hT : TI u0 Z stash u rd order [b]) (hIs : IR stash) (hsl : stash.length ≤ 100000) :
    Calls Try.prog 44 #[.pointer (some ⟨g, 0, none⟩), .int .i64 b] w fun e w' => TakeR w B0 g sb rb u0 Z u b SA sc stash e w' := by
  obtain ⟨i0, hi, hz0, hz1, hz2⟩ := info_parts info3
  obtain ⟨k0, ki, kz0, kz1, kz2⟩ := info_parts info70
  have hb1 : Below w.heap.size w (w.alloc (.cells #[.int .i64 b] 3)) := (Below.refl _ _).alloc (Nat.le_refl _) _
  have HA : Hid (Wk (w.alloc (.cells #[.int .i64 b] 3)) B0 g sb rb u rd SA sc stash OA oc order ∧ OwnI (w.alloc (.cells #[.int .i64 b] 3)) B0 (some ⟨w.heap.size, 0, none⟩) 1 1 [b] ∧ TI u0 Z stash u rd order [b] ∧ Below B0 w (w.alloc (.cells #[.int .i64 b] 3)) ∧ (∀ j, u j = none → u j = none) ∧ (b ∈ [b] ∨ u b = none)) := Lib.hid ⟨hW.up hb1, OwnI.one w b B0 hW.base _ rfl, hT, hb1.mono hW.base, fun _ h => h, .inl (by simp)⟩
  have HC0 : Hid (1 + 20000 * cardU u ≤ 400000001) := Lib.hid (by have := cardU_le u; omega)
  have HIS := Lib.hid hIs
  have HU := Lib.hid (rfl : u = u)
  clear hW hT hIs hb1
  go_enter Try.func44, Try.ntmps44
  go_wp2_with fail
  generalize w.alloc (.cells #[.int .i64 b] 3) = W1 at *
  generalize w.heap.size = wz at *
  go_loopg [4] (1 + 20000 * cardU u) (fun gk v wr => ∃ (u' : Int → Option StV) (rd' : Int → Int) (OA' : Option Addr) (oc' : Nat) (order' : List StV) (A : Option Addr) (n c : Nat) (T : List Int), v = .slice A n c ∧ n + 20000 * cardU u' ≤ gk ∧ gk ≤ 400000001 ∧ Hid (Wk wr B0 g sb rb u' rd' SA sc stash OA' oc' order' ∧ OwnI wr B0 A n c T ∧ TI u0 Z stash u' rd' order' T ∧ Below B0 w wr ∧ (∀ j, u j = none → u' j = none) ∧ (b ∈ T ∨ u' b = none)))
  case atStart => exact ⟨u, rd, OA, oc, order, _, 1, 1, [b], rfl, Nat.le_refl _, HC0.out, HA⟩
  case round =>
    clear HA HC0
    obtain ⟨u', rd', OA', oc', order', A, n, c, T, rfl, hcard, hgk, HI⟩ := hrel
    by_cases hn : n = 0
    · subst hn
      have hTn : T = [] := List.length_eq_zero_iff.1 HI.out.2.1.1
      subst hTn
      go_wp2_with fail
      refine ⟨rfl, .tuple #[], ?_, rfl, _, _, _, _, _, HI.out.1, HI.out.2.2.1, HI.out.2.2.2.1, HI.out.2.2.2.2.1, HI.out.2.2.2.2.2.resolve_left (by simp)⟩
      first | rfl | (simp [Results, Try.f44]; done) | kernel_rfl
    · obtain ⟨m, rfl⟩ : ∃ m, n = m + 1 := ⟨n - 1, by omega⟩
      have hTl := HI.out.2.1.1
      rcases Sc.snoc_cases T with rfl | ⟨T', b', rfl⟩
      · simp at hTl
      have hTm : T'.length = m := by simpa using hTl
      obtain ⟨tb, toff, rfl, htb, ht0⟩ := HI.out.2.1.rd m b' (by rw [← hTm]; simp)
      have hcap := HI.out.2.1.cap
      have hbb := (HI.out.2.2.1.tz b' (by simp)).1
      have g1 : (0 : Int) < ((m + 1 : Nat) : Int) := by omega
      have g2 : IntKind.i64.wrap (((m + 1 : Nat) : Int) - 1) = (m : Int) := by rw [IntWalk.i64_in _ (by omega)]; omega
      have g3 : m < m + 1 := by omega
      have g4 : (m : Int) ≤ (c : Int) := by omega
      have g5 : ¬ c = 0 := by omega
      have HTM := Lib.hid hTm
      have HSH : Hid (OwnI wr B0 (some ⟨tb, toff, none⟩) m c T') := Lib.hid (by
        have h := HI.out.2.1.shrink m (by omega)
        rwa [List.take_append_of_le_length (by omega), List.take_of_length_le (by omega)] at h)
      have hlook := HI.out.1.look (show I64 b' by unfold I64; omega)
      have hc0 := HI.out.1.cells.1
      have hlt0 := HI.out.1.lt
      have hne0 : Hid (¬ inA OA' wr.heap.size) := Lib.hid (fun e => by have := (HI.out.1.row.ty e).2.1; omega)
      clear hTl hTm hn
      cases hub : u' b' with
      | none =>
        rw [hub] at hlook
        simp only [Option.map_none, Option.getD_none, Option.isSome_none] at hlook
        have HTI := Lib.hid (HI.out.2.2.1.pop_none hub)
        have HBB : Hid (b ∈ T' ∨ u' b = none) := Lib.hid (by
          rcases HI.out.2.2.2.2.2 with h | h
          · rcases List.mem_append.1 h with h | h
            · exact .inl h
            · simp at h; subst h; exact .inr hub
          · exact .inr h)
        have hb2 : Below wr.heap.size wr (wr.alloc (.cells #[.int .i64 0, .slice none 0 0] 70)) := (Below.refl _ _).alloc (Nat.le_refl _) _
        have HB2 := Lib.hid hb2
        clear hub hb2 hne0
        go_wp2_with fail
        go_roundg (m + 20000 * cardU u')
        case measure => omega
        case rel => exact ⟨u', rd', OA', oc', order', _, m, c, T', rfl, Nat.le_refl _, by omega, Lib.hid ⟨HI.out.1.up HB2.out, HSH.out.alloc _, HTI.out, HI.out.2.2.2.1.trans (HB2.out.mono HI.out.1.base), HI.out.2.2.2.2.1, HBB.out⟩⟩
      | some s =>
        rw [hub] at hlook
        simp only [Option.map_some, Option.getD_some, Option.isSome_some] at hlook
        obtain ⟨hblk, hsg⟩ := HI.out.1.us b' s hub
        have HTI := Lib.hid (HI.out.2.2.1.pop_some hub)
        have HSG := Lib.hid hsg
        have HKD := Lib.hid (HI.out.2.2.1.kdom b' s (HI.out.2.2.1.dom b' s hub))
        have hol := HI.out.2.2.1.order_len
        have HRC := Lib.hid HI.out.2.2.1.rdc
        have HCD := Lib.hid (cardU_drop hub ((mem_keysL b').2 hbb))
        have HBB : Hid (b ∈ T' ∨ updS u' b' none b = none) := Lib.hid (by
          by_cases hbe : b = b'
          · subst hbe; exact .inr (updS_same _ _ _)
          · rcases HI.out.2.2.2.2.2 with h | h
            · rcases List.mem_append.1 h with h | h
              · exact .inl h
              · simp at h; exact absurd h hbe
            · exact .inr (by rw [updS_other _ _ hbe]; exact h))
        have HMO : Hid (∀ j, u j = none → updS u' b' none j = none) := Lib.hid (fun j hj => by
          by_cases hj2 : j = b'
          · subst hj2; exact updS_same _ _ _
          · rw [updS_other _ _ hj2]; exact HI.out.2.2.2.2.1 j hj)
        have HUB := Lib.hid hub
        clear hub hsg
        obtain ⟨blk, PA, pc, parts⟩ := s
        simp only at hblk
        subst hblk
        unfold stVal at hlook
        simp only at hlook
        go_upto_region 6 with (fail)
        have hb2 : Below wr.heap.size wr (wr.alloc (.cells #[.int .i64 blk, .slice PA parts.length pc] 70)) := (Below.refl _ _).alloc (Nat.le_refl _) _
        have HW2 := Lib.hid (HI.out.1.up hb2)
        have HT2 := Lib.hid (HSH.out.alloc (.cells #[.int .i64 blk, .slice PA parts.length pc] 70))
        have HX2 : Hid ((wr.alloc (.cells #[.int .i64 blk, .slice PA parts.length pc] 70)).heap[wr.heap.size]? = some (.cells #[.int .i64 blk, .slice PA parts.length pc] 70 (0, 0))) := Lib.hid (heap_alloc_new wr _)
        have HBL2 := Lib.hid (HI.out.2.2.2.1.trans (hb2.mono HI.out.1.base))
        have HSG2 : Hid (StG (wr.alloc (.cells #[.int .i64 blk, .slice PA parts.length pc] 70)) ⟨blk, PA, pc, parts⟩) := Lib.hid (HSG.out.same hb2.size (fun b cs p hb => hb2.block b (Array.getElem?_eq_some_iff.1 hb).1))
        clear hb2 HI HSH hlook hc0 ht0 HSG
        generalize hvb : wr.heap.size = vb at *
        generalize wr.alloc (.cells #[.int .i64 blk, .slice PA parts.length pc] 70) = W2 at *
        clear hvb htb hlt0
        go_cut [5] (fun v wx => v = .int .i64 blk ∧ ∃ (OA2 : Option Addr) (oc2 : Nat), Hid (Wk wx B0 g sb rb u' rd' SA sc stash OA2 oc2 (order' ++ [⟨blk, PA, pc, parts⟩]) ∧ OwnI wx B0 (some ⟨tb, toff, none⟩) m c T' ∧ wx.heap[vb]? = some (.cells #[.int .i64 blk, .slice PA parts.length pc] 70 (0, 0)) ∧ Below B0 w wx ∧ ¬ inA OA2 vb))
        case first =>
          have c3 := HW2.out.cells.2.2.2
          have z3 : W2.frozen? ⟨g, 3, none⟩ = false := frozen_of_row _ _ 3 _ _ HW2.out.box
          have v0 : W2.cell? ⟨vb, 0, none⟩ = some (.int .i64 blk) := cell_of_row _ _ 0 _ 70 (0, 0) HX2.out
          have v1 : W2.cell? ⟨vb, 1, none⟩ = some (.slice PA parts.length pc) := cell_of_row _ _ 1 _ 70 (0, 0) HX2.out
          have hgl := HW2.out.lt
          have HNG : Hid (some g ≠ (Value.slice OA' order'.length oc').ownBlock) := Lib.hid (fun e => by
            obtain ⟨_, _, cs, hc⟩ := HW2.out.row.ty (own_in.1 e.symm)
            have h := HW2.out.box
            rw [hc] at h
            injection h with h
            injection h with _ h
            cases h)
          have HRW := Lib.hid HW2.out.row
          have hB0 := HW2.out.base
          go_wp2_with fail
          go_region_law (refine step_append_lies _ (by rfl) (.tmp 41) (.tmp 43) 43 (by rfl) B0 70 k0 _ 2 32 Try.underlying43 ki kz0 kz1 kz2 rfl (by omega) (.slice OA' order'.length oc') order'.length (stCells order') (by rfl) (HRW.out.2.alloc _) ⟨W2.heap.size, 0, none⟩ 1 1 [.int .i64 blk, .slice PA parts.length pc] (by rfl) (by rfl) (World.news_of_block (heap_alloc_new _ _)) (by simp [Value.oneCell']) (by omega) (by unfold maxLen; omega) (by omega) (by simp; omega) (W2.heap.size + 1) (by simp) ?_; intro g5 k5 w5 hown5 hgrow5 hat5 hlt5; have c35 := (hgrow5.cell_far ⟨g, 3, none⟩ (by simp; omega) HNG.out).trans ((World.cell?_alloc_lt _ _ _ hgl).trans c3); have z35 := (hgrow5.frozen_far ⟨g, 3, none⟩ (by simp; omega) HNG.out).trans (((Below.refl W2.heap.size W2).alloc (Nat.le_refl _) _).frozen (p := ⟨g, 3, none⟩) hgl |>.trans z3))
          all_goals
            obtain ⟨x1, x2, x3⟩ := HW2.out.push (s := ⟨blk, PA, pc, parts⟩) (belowDrewN ((Below.refl W2.heap.size W2).alloc (Nat.le_refl _) _) 1) HSG2.out (by rw [stCells_one]; exact hown5) hgrow5 hat5 (by omega)
            have X4 : Hid (¬ inA (some ⟨g5, 0, none⟩) vb) := Lib.hid (fun e => by
              have e2 : g5 = vb := inA_some.1 e
              rcases hat5 with h | h
              · exact hne0.out (e2 ▸ own_in.1 h)
              · have := (Array.getElem?_eq_some_iff.1 HX2.out).1; omega)
            have X1 := Lib.hid x1
            have X2 := Lib.hid x2
            have X3 := Lib.hid x3
            clear x1 x2 x3 hown5 hgrow5 hat5 hlt5 c35 z35 v0 v1 c3 z3
            generalize w5.setCell ⟨g, 3, none⟩ (.slice (some ⟨g5, 0, none⟩) (order'.length + 1) k5) = w6 at *
            go_wp2_with fail
            go_meet
            exact ⟨rfl, _, _, Lib.hid ⟨X1.out, HW2.out.rowI X3.out HT2.out, HW2.out.boxS X3.out HX2.out (by decide) hne0.out, HBL2.out.trans X2.out, X4.out⟩⟩
        case rest =>
          obtain ⟨rfl, OA2, oc2, HC⟩ := hcut
          clear HW2 HT2 HX2 HBL2 HSG2 hne0
          obtain ⟨w6, hdel, hw6, hb6, hbs6⟩ := HC.out.1.drop (show I64 blk by unfold I64; omega) 0
          have hc0 := HC.out.1.cells.1
          have HW6 := Lib.hid hw6
          have HT6 := Lib.hid (HC.out.1.rowI hbs6 HC.out.2.1)
          have HX6 := Lib.hid (HC.out.1.boxS hbs6 HC.out.2.2.1 (by decide) HC.out.2.2.2.2)
          have HB6 := Lib.hid (HC.out.2.2.2.1.trans hb6)
          have HSG6 := Lib.hid (hw6.os ⟨blk, PA, pc, parts⟩ (by simp))
          have v0 : w6.cell? ⟨vb, 0, none⟩ = some (.int .i64 blk) := cell_of_row _ _ 0 _ 70 (0, 0) HX6.out
          have v1 : w6.cell? ⟨vb, 1, none⟩ = some (.slice PA parts.length pc) := cell_of_row _ _ 1 _ 70 (0, 0) HX6.out
          clear hw6 hbs6 hb6 HC
          go_wp2_with fail
          refine (reads_any g blk PA parts.length pc parts SA stash.length sc stash w6 rfl HSG6.out.ok.rd HSG6.out.may.1 (by have := HSG6.out.len; simp only at this; omega) HSG6.out.ok.b HW6.out.cells.2.2.1 rfl HW6.out.st.rd HIS.out hsl HKD.out.2.2).mono ?_
          rintro e w7 ⟨⟨A3, n3, c3, rfl, ho3⟩, hb7⟩
          have ho3' : OwnI w7 w6.heap.size A3 n3 c3 (readsOf stash ⟨blk, PA, pc, parts⟩) := ho3
          have hn3 : n3 ≤ 16384 := by have := readsOf_len (st := stash) (s := ⟨blk, PA, pc, parts⟩) HKD.out.2.2; have := ho3'.1; omega
          have HW7 := Lib.hid (HW6.out.up hb7)
          have HT7 := Lib.hid (HT6.out.below hb7 (Nat.le_refl _))
          have HB7 := Lib.hid (HB6.out.trans (hb7.mono HW6.out.base))
          have HK7 := Lib.hid ho3'
          have HA7 : Hid (∀ kb, inA A3 kb → (Value.slice (some ⟨tb, toff, none⟩) m c).ownBlock ≠ some kb) := Lib.hid (fun kb hk e => by
            have h1 := (ho3'.ty hk).1
            have h2 := HT6.out.2.lt kb e
            omega)
          have HRN : Hid (∀ (i : Nat) k, (readsOf stash ⟨blk, PA, pc, parts⟩)[i]? = some k → (0 ≤ k ∧ k < 20000) ∧ rd' k = cntU u' stash k ∧ rdP rd' (readsOf stash ⟨blk, PA, pc, parts⟩) i k = rd' k ∧ updI (rdP rd' (readsOf stash ⟨blk, PA, pc, parts⟩) i) k (rd' k - 1) = rdP rd' (readsOf stash ⟨blk, PA, pc, parts⟩) (i + 1) ∧ rdP rd' (readsOf stash ⟨blk, PA, pc, parts⟩) (i + 1) k = rd' k - 1 ∧ tP rd' T' (readsOf stash ⟨blk, PA, pc, parts⟩) (i + 1) = tP rd' T' (readsOf stash ⟨blk, PA, pc, parts⟩) i ++ (if rd' k = 1 then [k] else [])) := Lib.hid (fun i k hk => by
            have h1 := readsOf_bound HKD.out.2.2 (List.mem_of_getElem? hk)
            have hnd : (readsOf stash ⟨blk, PA, pc, parts⟩).Nodup := reads_nodup _ _ _
            have h2 := rdP_next (rd := rd') hnd hk
            refine ⟨by omega, HRC.out k (by omega) (by omega), h2.1, h2.2, ?_, tP_next hk⟩
            rw [← h2.2]
            unfold updI
            simp)
          have HTL : Hid (∀ i, (tP rd' T' (readsOf stash ⟨blk, PA, pc, parts⟩) i).length ≤ m + 16384) := Lib.hid (fun i => by
            have h1 := tP_len rd' T' (readsOf stash ⟨blk, PA, pc, parts⟩) i
            have h2 := HTM.out
            have h3 := readsOf_len (st := stash) (s := ⟨blk, PA, pc, parts⟩) HKD.out.2.2
            omega)
          have HK0 : Hid (rdP rd' (readsOf stash ⟨blk, PA, pc, parts⟩) 0 = rd' ∧ tP rd' T' (readsOf stash ⟨blk, PA, pc, parts⟩) 0 = T') := Lib.hid ⟨by funext k; simp [rdP], by simp [tP]⟩
          clear ho3 ho3' hb7 HW6 HT6 HB6 HX6 HSG6 v0 v1 hdel hc0 HRC
          generalize readsOf stash ⟨blk, PA, pc, parts⟩ = K at *
          go_wp2_with fail
          go_loopw [4, 56] (fun v i wx => ∃ (j : Nat) (A : Option Addr) (n c : Nat), j ≤ n3 ∧ i = .int .i64 j ∧ v = .slice A n c ∧ n ≤ m + 16384 ∧ Hid (Wk wx B0 g sb rb (updS u' blk none) (rdP rd' K j) SA sc stash OA2 oc2 (order' ++ [⟨blk, PA, pc, parts⟩]) ∧ OwnI wx B0 A n c (tP rd' T' K j) ∧ OwnI wx w6.heap.size A3 n3 c3 K ∧ (∀ kb, inA A3 kb → (Value.slice A n c).ownBlock ≠ some kb) ∧ Below B0 w wx)) (fun _ i _ => n3 - (intOf i).toNat)
          case atStart => exact ⟨0, _, m, c, Nat.zero_le _, rfl, rfl, by omega, Lib.hid ⟨by rw [HK0.out.1]; exact HW7.out, by rw [HK0.out.2]; exact HT7.out, HK7.out, HA7.out, HB7.out⟩⟩
          case round =>
            clear HW7 HT7 HB7 HK7 HA7 HK0
            obtain ⟨j, A, n, c, hj, rfl, rfl, hnm, HJ⟩ := hrel
            by_cases hlj : j < n3
            · obtain ⟨k, hk⟩ := get_some K j (by have := HJ.out.2.2.1.1; omega)
              obtain ⟨kb, koff, hA3, hkb, k0⟩ := HJ.out.2.2.1.rd j k hk
              obtain ⟨n1, n2, n4, n5, n6, n7⟩ := HRN.out j k hk
              have hcu := cntU_le u' stash k
              have hc1 := HJ.out.1.cells.2.1
              have hl1 := HJ.out.1.readers.look n1.1 n1.2
              obtain ⟨w8, hst, hw8, hb8, hbs8, _⟩ := HJ.out.1.count n1.1 n1.2 (rd' k - 1)
              have hl2 := hw8.readers.look n1.1 n1.2
              have hc2 := hw8.cells.2.1
              rw [n4] at hl1
              rw [n5] at hw8 hl2
              rw [n6] at hl2
              have q1 : IntKind.i64.wrap (rd' k - 1) = rd' k - 1 := IntWalk.i64_in _ (by omega)
              have HW8 := Lib.hid hw8
              have HT8 := Lib.hid (HJ.out.1.rowI hbs8 HJ.out.2.1)
              have HK8 := Lib.hid (HJ.out.1.rowI hbs8 HJ.out.2.2.1)
              have HB8 := Lib.hid (HJ.out.2.2.2.2.trans hb8)
              have HA8 := Lib.hid HJ.out.2.2.2.1
              have hTL := HTL.out (j + 1)
              rw [n7] at hTL
              have HN7 := Lib.hid n7
              subst hA3
              clear hk n2 n4 n5 n6 n7 hw8 hb8 hbs8 HJ hcu
              by_cases h1 : rd' k = 1
              · have e0 : rd' k - 1 = 0 := by omega
                have HT9 : Hid (tP rd' T' K (j + 1) = tP rd' T' K j ++ [k]) := Lib.hid (by rw [HN7.out, if_pos h1])
                rw [if_pos h1, List.length_append] at hTL
                have hTL2 : n + 1 ≤ m + 16384 := by have := HT8.out.1; simp at hTL; omega
                rw [e0] at hl2 hst q1
                clear HN7 h1 hTL
                go_wp2_with (at_builtin; refine wpList_append_block rfl (.tmp 74) (.tmp 76) 71 rfl B0 3 i0 _ 1 8 Try.underlying71 hi hz0 hz1 hz2 rfl (by decide) _ _ _ rfl (HT8.out.alloc _).2 ⟨w8.heap.size, 0, none⟩ 1 1 (icells [k]) rfl rfl (newi_one _ _ _ rfl) (icells_one _) (by unfold maxLen; omega) (by omega) (by have := HW8.out.base; simp; omega) ?_)
                intro v' w9 hown' hgrow hblk'
                obtain ⟨⟨A9, c9, hv, hown2⟩, hb3, _, _, _⟩ := appI_step HT8.out HB8.out HW8.out.base ((Below.refl _ _).alloc (Nat.le_refl _) _) (m := 1) (K := [k]) rfl hown' hgrow
                have X9 := Lib.hid (HW8.out.beside ((Below.refl w8.heap.size w8).alloc (Nat.le_refl _) _) hgrow (fun b hb => HT8.out.ty (own_in.1 hb)))
                have HBX : Hid (∀ kb', inA (some ⟨kb, koff, none⟩) kb' → w9.heap[kb']? = w8.heap[kb']? ∧ v'.ownBlock ≠ some kb') := Lib.hid (fun kb' hk => by
                  obtain ⟨_, cs, hc⟩ := HK8.out.ty hk
                  have h := box_step (HA8.out kb' hk) hc ((Below.refl w8.heap.size w8).alloc (Nat.le_refl _) _) hgrow hblk'
                  exact ⟨h.1.trans hc.symm, h.2⟩)
                rw [hv] at HBX ⊢
                have HO9 := Lib.hid hown2
                have HB9 := Lib.hid hb3
                clear hgrow hown' hv hown2 hb3 hblk' hl1 hl2 hst
                go_wp2_with fail
                go_roundw
                case measure => simp [intOf]; omega
                case rel => exact ⟨j + 1, A9, n + 1, c9, by omega, by go_num, rfl, hTL2, Lib.hid ⟨X9.out.1, by rw [HT9.out]; exact HO9.out, HK8.out.same (fun kb hk => (HBX.out kb hk).1), fun kb hk => (HBX.out kb hk).2, HB9.out⟩⟩
              · have e0 : (rd' k - 1 == 0) = false := by simp; omega
                have HT9 : Hid (tP rd' T' K (j + 1) = tP rd' T' K j) := Lib.hid (by rw [HN7.out, if_neg h1, List.append_nil])
                clear HN7 h1 hTL
                go_wp2_with fail
                go_roundw
                case measure => simp [intOf]; omega
                case rel => exact ⟨j + 1, A, n, c, by omega, by go_num, rfl, hnm, Lib.hid ⟨HW8.out, by rw [HT9.out]; exact HT8.out, HK8.out, HA8.out, HB8.out⟩⟩
            · obtain rfl : j = n3 := by omega
              clear hlj
              have HKL := Lib.hid HJ.out.2.2.1.1
              go_wp2_with fail
              go_roundg (n + 20000 * cardU (updS u' blk none))
              case measure => have := HCD.out; omega
              case rel => exact ⟨updS u' blk none, rdP rd' K K.length, OA2, oc2, order' ++ [⟨blk, PA, pc, parts⟩], A, n, c, tP rd' T' K K.length, rfl, Nat.le_refl _, by have := HCD.out; omega, Lib.hid ⟨by rw [HKL.out]; exact HJ.out.1, by rw [HKL.out]; exact HJ.out.2.1, HTI.out, HJ.out.2.2.2.2, HMO.out, by
                rcases HBB.out with h | h
                · exact .inl (by unfold tP; exact List.mem_append_left _ h)
                · exact .inr h⟩⟩
end Go.Proofs.Yteceephenfmdoaa
