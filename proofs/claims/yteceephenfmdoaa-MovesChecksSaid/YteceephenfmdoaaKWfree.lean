/-
  free: puts aside what others need of a block.
-/
import Derived.Test.YteceephenfmdoaaKWtake
import Derived.Test.YteceephenfmdoaaRC
import Derived.Test.YteceephenfmdoaaRD
namespace Go.Proofs.Yteceephenfmdoaa
open Go.RowKit
/-- What a step, another one than the block's, needs. -/
def needO (b : Int) (s : StV) : List R := if s.blk ≠ b then needL s.parts else []
def needK (u : Int → Option StV) (b : Int) (L : List Int) : List R := L.flatMap fun j => match u j with | some s => needO b s | none => []
theorem needK_snoc (u : Int → Option StV) (b : Int) (L : List Int) (j : Int) {s : StV} (h : u j = some s) : needK u b (L ++ [j]) = needK u b L ++ needO b s := by unfold needK; simp [h]
theorem needO_take (b : Int) (s : StV) (_hne : s.blk ≠ b) (i : Nat) {x : S} (hx : s.parts[i]? = some x) : needL (s.parts.take (i + 1)) = needL (s.parts.take i) ++ rngS x := by rw [Sc.take_snoc s.parts i x hx, needL_snoc]
theorem in_needK (u : Int → Option StV) (b : Int) (L : List Int) (hL : ∀ j, (u j).isSome = true ↔ j ∈ L) (hu : ∀ j s, u j = some s → s.blk = j) (x : Int) : In (needK u b L) x ↔ ∃ j s, u j = some s ∧ j ≠ b ∧ Need s.parts x := by
  constructor
  · rintro ⟨r, hr, h1⟩
    obtain ⟨j, hj, hr⟩ := List.mem_flatMap.1 hr
    cases huj : u j with
    | none => rw [huj] at hr; cases hr
    | some s =>
      rw [huj] at hr
      simp only [needO] at hr
      split at hr
      · rename_i hne
        exact ⟨j, s, huj, by rw [← hu j s huj]; exact hne, (in_needL _ _).1 ⟨r, hr, h1⟩⟩
      · cases hr
  · rintro ⟨j, s, huj, hne, hx⟩
    obtain ⟨r, hr, h1⟩ := (in_needL _ _).2 hx
    refine ⟨r, List.mem_flatMap.2 ⟨j, (hL j).1 (by rw [huj]; rfl), ?_⟩, h1⟩
    rw [huj]
    simp only [needO]
    rw [if_pos (by rw [hu j s huj]; exact hne)]
    exact hr
theorem needK_ir (u : Int → Option StV) (b : Int) (L : List Int) (h : ∀ j s, u j = some s → Sc.Ok s.parts) : IR (needK u b L) := by
  intro r hr
  obtain ⟨j, hj, hr⟩ := List.mem_flatMap.1 hr
  cases huj : u j with
  | none => rw [huj] at hr; cases hr
  | some s =>
    rw [huj] at hr
    simp only [needO] at hr
    split at hr
    · exact needL_ir (h j s huj) r hr
    · cases hr
/-- What the stash is behind a block that was freed. -/
def FreeP (u : Int → Option StV) (b : Int) (stash : List R) (x : Int) : Prop := 0 ≤ x ∧ (In stash x ∨ (x / 64 = b ∧ ∃ j s, u j = some s ∧ j ≠ b ∧ Need s.parts x))
def FreeR (w : World) (B0 g sb rb : Nat) (u : Int → Option StV) (rd : Int → Int) (b : Int) (stash : List R) (OA : Option Addr) (oc : Nat) (order : List StV) (e : Ending) (w' : World) : Prop :=
  e = .returned (.tuple #[]) ∧ ∃ SA' sc' stash', Wk w' B0 g sb rb u (updI rd b 0) SA' sc' stash' OA oc order ∧ Is stash' (FreeP u b stash) ∧ Below B0 w w'
theorem Own.one (w : World) (r : R) (base : Nat) (hb : base ≤ w.heap.size) (g : Nat) (hg : g = w.heap.size) : Own (w.alloc (.cells #[.int .i64 r.1, .int .i64 r.2] 67)) base (some ⟨g, 0, Option.none⟩) 1 1 [r] := by
  subst hg
  exact ⟨rfl, rfl, .inr ⟨w.heap.size, 1, #[.int .i64 r.1, .int .i64 r.2], rfl, hb, heap_alloc_new w _, Nat.le_refl _, by unfold maxLen; omega, rfl, rfl⟩⟩
theorem ownR_ne {w : World} {base : Nat} {A : Option Addr} {n c : Nat} {l : List R} (h : Own w base A n c l) {b : Nat} {cs : Array Value} {T : TypeId} {p : Nat × Nat} (hb : w.heap[b]? = some (.cells cs T p)) (hT : T ≠ 67 := by decide) : (Value.slice A n c).ownBlock ≠ some b := by
  rcases h.2.2 with ⟨hv, _⟩ | ⟨g, cap', cur, hv, _, hg, _⟩
  · rw [hv]; simp [Value.ownBlock]
  · rw [hv]
    simp only [Value.ownBlock, ne_eq, Option.some.injEq]
    rintro rfl
    rw [hg] at hb
    injection hb with hb
    injection hb with _ hb
    exact hT hb.symm
def needI (b : Int) (s : StV) (i : Nat) : List R := if s.blk ≠ b then needL (s.parts.take i) else []
theorem needI_all (b : Int) (s : StV) (i : Nat) (h : s.parts.length ≤ i) : needI b s i = needO b s := by unfold needI needO; rw [List.take_of_length_le h]
theorem needI_zero (b : Int) (s : StV) : needI b s 0 = [] := by unfold needI; simp [needL]
theorem needI_next (b : Int) (s : StV) (i : Nat) {x : S} (hx : s.parts[i]? = some x) : needI b s (i + 1) = needI b s i ++ (if x.src = 0 ∧ s.blk ≠ b then [(x.at_, x.at_ + x.len)] else []) := by
  unfold needI
  by_cases h : s.blk ≠ b
  · rw [if_pos h, if_pos h, needO_take b s h i hx]
    unfold rngS
    by_cases h0 : x.src = 0
    · rw [if_pos h0, if_pos ⟨h0, h⟩]
    · rw [if_neg h0, if_neg (fun h => h0 h.1)]
  · rw [if_neg h, if_neg h, if_neg (fun h' => h h'.2)]
    simp
set_option maxRecDepth 100000 in
set_option maxHeartbeats 4000000 in
theorem free_any (w : World) (B0 g sb rb : Nat) (u : Int → Option StV) (rd : Int → Int) (SA : Option Addr) (sc : Nat) (stash : List R) (OA : Option Addr) (oc : Nat) (order : List StV) (b : Int)
    (hW : Wk w B0 g sb rb u rd SA sc stash OA oc order) (hb : 0 ≤ b ∧ b < 20000) (hR : Right stash) (hIs : IR stash) (hsl : stash.length ≤ 100000) (hk : ∀ j, (u j).isSome = true → j < 3200) :
    Calls Try.prog 45 #[.pointer (some ⟨g, 0, none⟩), .int .i64 b] w fun e w' => FreeR w B0 g sb rb u rd b stash OA oc order e w' := by
  obtain ⟨i0, hi, hz0, hz1, hz2⟩ := info_parts info29
  have q1 : IntKind.i64.wrap (b * 64) = b * 64 := IntWalk.i64_in _ (by omega)
  have q2 : IntKind.i64.wrap (b + 1) = b + 1 := IntWalk.i64_in _ (by omega)
  have q3 : IntKind.i64.wrap ((b + 1) * 64) = (b + 1) * 64 := IntWalk.i64_in _ (by omega)
  have hb1 : Below w.heap.size w (w.alloc (.cells #[.int .i64 (b * 64), .int .i64 ((b + 1) * 64)] 67)) := (Below.refl _ _).alloc (Nat.le_refl _) _
  have HW1 := Lib.hid (hW.up hb1)
  have HO1 : Hid (Own (w.alloc (.cells #[.int .i64 (b * 64), .int .i64 ((b + 1) * 64)] 67)) w.heap.size (some ⟨w.heap.size, 0, Option.none⟩) 1 1 [(b * 64, (b + 1) * 64)]) := Lib.hid (Own.one w (b * 64, (b + 1) * 64) w.heap.size (Nat.le_refl _) _ rfl)
  have HB1 := Lib.hid (hb1.mono hW.base)
  have HIS := Lib.hid hIs; have HK := Lib.hid hk; have HR := Lib.hid hR
  have HUB : Hid (∀ j s, u j = some s → s.blk = j) := Lib.hid fun j s h => (hW.us j s h).1
  have HUO : Hid (∀ j s, u j = some s → Sc.Ok s.parts) := Lib.hid fun j s h => (hW.us j s h).2.may.1
  have hwb := hW.base
  clear hW hIs hk hb1 hR
  go_enter Try.func45, Try.ntmps45
  go_upto_region 2 with (fail)
  generalize w.alloc (.cells #[.int .i64 (b * 64), .int .i64 ((b + 1) * 64)] 67) = W1 at *
  generalize hws : w.heap.size = ws at *
  have HWS := Lib.hid hws
  clear hws
  obtain ⟨w2, hrun, ⟨c0, hr2⟩, hg2, hs2⟩ := HW1.out.steps.range map78
  have hc0 := HW1.out.cells.1
  have hb2 : Below W1.heap.size W1 w2 := ⟨hg2.os, hg2.tape, hg2.output, hg2.size, fun k hk => hg2.block k hk (by simp)⟩
  have HR2 := Lib.hid hr2
  have HB2' := Lib.hid hb2
  have HW2 := Lib.hid (HW1.out.up hb2)
  have HO2 := Lib.hid (HO1.out.up hb2)
  have HB2 := Lib.hid (HB1.out.trans (hb2.mono HW1.out.base))
  have hrb : W1.heap.size < w2.heap.size := by omega
  have HRNE : Hid (W1.heap.size ≠ rb) := Lib.hid (fun e => by
    obtain ⟨es, c, h⟩ := HW1.out.readers.heap
    have := (Array.getElem?_eq_some_iff.1 h).1
    omega)
  clear hr2 hg2 hb2 hs2
  go_wp2_with fail
  generalize hrk : W1.heap.size = rk at *
  have HRK := Lib.hid hrk
  have HBA : Hid (Below rk W1 w2) := Lib.hid ⟨HB2'.out.os, HB2'.out.tape, HB2'.out.output, HB2'.out.size, HB2'.out.block⟩
  clear hrk
  go_loopg [5] c0 (fun gk v wr => ∃ (L : List Int) (A : Option Addr) (n c : Nat), v = .slice A n c ∧ n ≤ 64 * L.length ∧ Hid (VR wr Try.prog 3 sb rk 20000 (fun j => (u j).map stVal) L gk ∧ Own wr (rk + 1) A n c (needK u b L) ∧ Below rk W1 wr) ∧ rk + 1 ≤ wr.heap.size)
  case atStart => exact ⟨[], _, 0, 0, rfl, Nat.zero_le _, Lib.hid ⟨HR2.out, Own.nil _ _, HBA.out⟩, hrb⟩
  case round =>
    clear HBA HR2 HB2' HW2 HO2 HB2 hrun hc0 hrb
    obtain ⟨L, A, n, c, rfl, hnL, HI, hsz⟩ := hrel
    have hLn : L.length ≤ 3200 := by
      obtain ⟨_, _, _, _, _, hkk, _, hnd, hLm⟩ := HI.out.1
      refine below_len 3200 L hnd (fun j hj => ?_)
      have h1 := hkk j (hLm j hj)
      have h2 := HK.out j (by have h3 := hLm j hj; simpa using h3)
      omega
    rcases HI.out.1.next map78 0 (by unfold maxLen; omega) with ⟨hrun2, hz, hnd, hall⟩ | ⟨x, v, w3, c', hrun2, hx0, hx1, hxL, hux, hr3, hlt, hg3, hs3, hen⟩
    · have HALL : Hid (∀ j, (u j).isSome = true ↔ j ∈ L) := Lib.hid fun j => by rw [← hall j]; cases u j <;> rfl
      clear hz hnd hall
      go_upto_region 11 with (fail)
      have hbw : Below W1.heap.size W1 wr := HRK.out ▸ HI.out.2.2
      have HW4 := Lib.hid (HW1.out.up hbw)
      have HO4 := Lib.hid (HO1.out.up hbw)
      have HN4 := Lib.hid HI.out.2.1
      have HB4 := Lib.hid (HB1.out.trans (hbw.mono HW1.out.base))
      have HND := Lib.hid (needK_ir u b L HUO.out)
      have HIN := Lib.hid (fun x => in_needK u b L HALL.out HUB.out x)
      have hnl := HN4.out.1
      have hnb : n ≤ 1000000 := by omega
      have hIR1 : IR [(b * 64, (b + 1) * 64)] := fun r hr => by simp at hr; subst hr; unfold I64; simp only; omega
      have HBo : Hid (Calls Try.prog 64 #[.slice A n c, .slice (some ⟨ws, 0, none⟩) 1 1] wr.drew fun e w' => (∃ A' n c, e = .returned (.slice A' n c) ∧ Own w' wr.heap.size A' n c (bothR (needK u b L) [(b * 64, (b + 1) * 64)])) ∧ Below wr.heap.size wr.drew w') := Lib.hid
        (Both_any A n c (some ⟨ws, 0, none⟩) 1 1 wr.drew (needK u b L) [(b * 64, (b + 1) * 64)] hnl HN4.out.rd HND.out rfl HO4.out.rd hIR1 hnb (by omega))
      have HEi : Hid (∀ (A6 : Option Addr) (n6 c6 : Nat) (w6 : World), Below wr.heap.size wr.drew w6 → Own w6 wr.heap.size A6 n6 c6 (bothR (needK u b L) [(b * 64, (b + 1) * 64)]) → Calls Try.prog 63 #[.slice SA stash.length sc, .slice A6 n6 c6] w6 fun e w' => (∃ A' n c, e = .returned (.slice A' n c) ∧ Own w' w6.heap.size A' n c (eitherR stash (bothR (needK u b L) [(b * 64, (b + 1) * 64)]))) ∧ Below w6.heap.size w6 w') := Lib.hid fun A6 n6 c6 w6 h6 o6 => by
        have hw6 := HW4.out.up (w' := w6) ⟨h6.os, h6.tape, h6.output, h6.size, h6.block⟩
        exact Either_any SA stash.length sc A6 n6 c6 w6 stash _ rfl hw6.st.rd HIS.out hw6.st.no o6.1 o6.rd (bothR_nn HND.out).ir (fun h => o6.none h) (by omega) (by have h1 := bothR_len (needK u b L) [(b * 64, (b + 1) * 64)]; have h2 := o6.1; have h3 := HN4.out.1; simp only [List.length_cons, List.length_nil] at h1; omega)
      have c2 := HW4.out.cells.2.2.1
      have z2 : wr.frozen? ⟨g, 2, none⟩ = false := frozen_of_row _ _ 2 _ _ HW4.out.box
      have hgl := HW4.out.lt
      clear HI hbw hIR1 hnl
      go_wp2_with fail
      go_region_law (first
        | (go_simp; go_at_call 64; refine HBo.out.mono ?_; rintro e w6 ⟨⟨A6, n6, c6, rfl, ho6⟩, hb6⟩; have HO6 := Lib.hid ho6; have HB6 := Lib.hid hb6; clear ho6 hb6; have c26 := (HB6.out.cell (p := ⟨g, 2, none⟩) hgl).trans c2; have z26 := (HB6.out.frozen (p := ⟨g, 2, none⟩) hgl).trans z2; have hgl6 := Nat.lt_of_lt_of_le hgl HB6.out.size)
        | (go_simp; go_at_call 63; refine (HEi.out _ _ _ _ HB6.out HO6.out).mono ?_; rintro e w7 ⟨⟨A7, n7, c7, rfl, ho7⟩, hb7⟩; have HO7 := Lib.hid ho7; have HB7 := Lib.hid hb7; clear ho7 hb7; have c27 := (HB7.out.cell (p := ⟨g, 2, none⟩) hgl6).trans c26; have z27 := (HB7.out.frozen (p := ⟨g, 2, none⟩) hgl6).trans z26))
      all_goals
        have hn7 := HO7.out.1
        subst hn7
        have hw7 := (HW4.out.up (w' := w6) ⟨HB6.out.os, HB6.out.tape, HB6.out.output, HB6.out.size, HB6.out.block⟩).up HB7.out
        obtain ⟨x1, x2, _⟩ := hw7.setStash (StR.of_own HO7.out)
        have X1 := Lib.hid x1
        have X2 : Hid (Below B0 w (w7.setCell ⟨g, 2, none⟩ (.slice A7 (eitherR stash (bothR (needK u b L) [(b * 64, (b + 1) * 64)])).length c7))) := Lib.hid (((HB4.out.trans (Below.mono ⟨HB6.out.os, HB6.out.tape, HB6.out.output, HB6.out.size, HB6.out.block⟩ HW4.out.base)).trans (HB7.out.mono (by have h8 := HB6.out.size; have h9 := HW4.out.base; have e9 : wr.drew.heap.size = wr.heap.size := rfl; omega))).trans x2)
        clear x1 x2 hw7 HO7 HB7 HO6 HB6 c26 z26 c27 z27 hgl6 HBo HEi
        generalize w7.setCell ⟨g, 2, none⟩ (.slice A7 (eitherR stash (bothR (needK u b L) [(b * 64, (b + 1) * 64)])).length c7) = w8 at *
        have hc1 := X1.out.cells.2.1
        obtain ⟨w9, hst, hw9, hb9, _, _⟩ := X1.out.count hb.1 hb.2 0
        have HW9 := Lib.hid hw9
        have HB9 := Lib.hid (X2.out.trans hb9)
        clear hw9 hb9 c2 z2
        go_wp2_with fail
        refine ⟨rfl, .tuple #[], ?_, rfl, _, _, _, HW9.out, (eitherR_is _ _).congr (fun x => ?_), HB9.out⟩
        · first | rfl | (simp [Results, Try.f45]; done) | kernel_rfl
        · unfold FreeP
          have h1 : In (bothR (needK u b L) [(b * 64, (b + 1) * 64)]) x ↔ 0 ≤ x ∧ In (needK u b L) x ∧ In [(b * 64, (b + 1) * 64)] x := (bothR_is (needK u b L) [(b * 64, (b + 1) * 64)]).2 x
          have h2 := HIN.out x
          have h3 : In [(b * 64, (b + 1) * 64)] x ↔ x / 64 = b := by rw [in_one]; simp only; omega
          rw [h1, h2, h3]
          constructor
          · rintro ⟨h4, h5 | h5⟩
            · exact ⟨h4, .inl h5⟩
            · exact ⟨h4, .inr ⟨h5.2.2, h5.2.1⟩⟩
          · rintro ⟨h4, h5 | h5⟩
            · exact ⟨h4, .inl h5⟩
            · exact ⟨h4, .inr ⟨h4, h5.2, h5.1⟩⟩
    · obtain ⟨s, hs, hsv⟩ := Option.map_eq_some_iff.1 hux
      subst hsv
      have HKN := Lib.hid (needK_snoc u b L x hs)
      have hsb : s.blk = x := HUB.out x s hs
      have hW3 := (HW1.out.up (HRK.out ▸ HI.out.2.2))
      have HSG := Lib.hid (hW3.us x s hs).2
      have hOwn3 : Own w3 (rk + 1) A n c (needK u b L) := ⟨HI.out.2.1.1, HI.out.2.1.2.kept hg3 (.inr fun e => by have := HI.out.2.1.2.lt rk e; omega)⟩
      have hBel3 : Below rk W1 w3 := HI.out.2.2.grown hg3 (by omega) (fun k hk => by injection hk with hk; omega)
      have hsz3 : rk + 1 ≤ w3.heap.size := by omega
      have HSG3 : Hid (StG w3 s) := Lib.hid (by
        have h := (HW1.out.us x s hs).2
        have hb := hBel3
        rw [← HRK.out] at hb
        exact h.same hb.size (fun b' cs p hb' => hb.block b' (Array.getElem?_eq_some_iff.1 hb').1))
      have HUX := Lib.hid hs
      obtain ⟨blk, PA, pc, parts⟩ := s
      simp only at hsb
      subst hsb
      unfold stVal at hrun2 hen
      simp only at hrun2 hen
      have hpl : parts.length ≤ 64 := HSG.out.len
      have HO3 := Lib.hid hOwn3
      have HB3 := Lib.hid hBel3
      have HR3 := Lib.hid hr3
      clear HI hs hux hg3 hs3 hr3 hOwn3 hBel3 hxL hW3 HSG
      go_upto_block 2 with (fail)
      have hb4 : Below w3.heap.size w3 (w3.alloc (.cells #[.int .i64 blk, .slice PA parts.length pc] 70)) := (Below.refl _ _).alloc (Nat.le_refl _) _
      have HX4 : Hid ((w3.alloc (.cells #[.int .i64 blk, .slice PA parts.length pc] 70)).heap[w3.heap.size]? = some (.cells #[.int .i64 blk, .slice PA parts.length pc] 70 (0, 0))) := Lib.hid (heap_alloc_new w3 _)
      have HO4 := Lib.hid (HO3.out.alloc (.cells #[.int .i64 blk, .slice PA parts.length pc] 70))
      have HB4 := Lib.hid (HB3.out.trans (hb4.mono (by omega)))
      have HR4 := Lib.hid (HR3.out.kept (World.grownBy_alloc w3 (.cells #[.int .i64 blk, .slice PA parts.length pc] 70) none) (by simp) (by simp))
      have HSG4 : Hid (StG (w3.alloc (.cells #[.int .i64 blk, .slice PA parts.length pc] 70)) ⟨blk, PA, pc, parts⟩) := Lib.hid (HSG3.out.same hb4.size (fun b' cs p hb' => hb4.block b' (Array.getElem?_eq_some_iff.1 hb').1))
      have hsz4 : rk + 1 ≤ (w3.alloc (.cells #[.int .i64 blk, .slice PA parts.length pc] 70)).heap.size := by simp; omega
      clear hb4 HO3 HB3 HR3 HSG3 hsz3 hrun2 hen
      generalize hvb : w3.heap.size = vb at *
      generalize w3.alloc (.cells #[.int .i64 blk, .slice PA parts.length pc] 70) = W4 at *
      clear hvb w3
      have HSB4 := Lib.hid HW1.out.steps.lt
      go_wp2_with fail
      go_loopw [5, 29] (fun v i wx => ∃ (k : Nat) (A : Option Addr) (n c : Nat), k ≤ parts.length ∧ i = .int .i64 k ∧ v = .slice A n c ∧ n ≤ 64 * L.length + k ∧ Hid (VR wx Try.prog 3 sb rk 20000 (fun j => (u j).map stVal) (L ++ [blk]) c' ∧ Own wx (rk + 1) A n c (needK u b L ++ needI b ⟨blk, PA, pc, parts⟩ k) ∧ Below rk W1 wx ∧ wx.heap[vb]? = some (.cells #[.int .i64 blk, .slice PA parts.length pc] 70 (0, 0)) ∧ StG wx ⟨blk, PA, pc, parts⟩) ∧ rk + 1 ≤ wx.heap.size) (fun _ i _ => parts.length - (intOf i).toNat)
      case atStart => exact ⟨0, A, n, c, Nat.zero_le _, rfl, rfl, by omega, Lib.hid ⟨HR4.out, by rw [needI_zero, List.append_nil]; exact HO4.out, HB4.out, HX4.out, HSG4.out⟩, hsz4⟩
      case round =>
        clear HR4 HO4 HB4 HX4 HSG4 hsz4 hnL
        obtain ⟨k, A, n, c, hkp, rfl, rfl, hnk, HJ, hszJ⟩ := hrel
        by_cases hlk : k < parts.length
        · obtain ⟨y, hy⟩ := get_some parts k hlk
          obtain ⟨pb, po, rfl, hpb, d0, d1, d2⟩ := HJ.out.2.2.2.2.ok.rd k y hy
          have hyok := HUO.out blk _ HUX.out y (List.mem_of_getElem? hy)
          have HNX := Lib.hid (needI_next b ⟨blk, some ⟨pb, po, none⟩, pc, parts⟩ k hy)
          unfold Sc.okS at hyok
          have r1 : IntKind.i64.wrap (y.at_ + y.len) = y.at_ + y.len := IntWalk.i64_in _ (by omega)
          go_upto_region 8 with (fail)
          have hb5 : Below wr.heap.size wr (wr.alloc (.cells #[.int .i64 y.src, .int .i64 y.at_, .int .i64 y.len] 48)) := (Below.refl _ _).alloc (Nat.le_refl _) _
          have HY5 : Hid ((wr.alloc (.cells #[.int .i64 y.src, .int .i64 y.at_, .int .i64 y.len] 48)).heap[wr.heap.size]? = some (.cells #[.int .i64 y.src, .int .i64 y.at_, .int .i64 y.len] 48 (0, 0))) := Lib.hid (heap_alloc_new wr _)
          have HR5 := Lib.hid (HJ.out.1.kept (World.grownBy_alloc wr (.cells #[.int .i64 y.src, .int .i64 y.at_, .int .i64 y.len] 48) none) (by simp) (by simp))
          have HO5 := Lib.hid (HJ.out.2.1.alloc (.cells #[.int .i64 y.src, .int .i64 y.at_, .int .i64 y.len] 48))
          have HB5 := Lib.hid (HJ.out.2.2.1.trans (hb5.mono (by omega)))
          have HX5 := Lib.hid ((hb5.block vb (Array.getElem?_eq_some_iff.1 HJ.out.2.2.2.1).1).trans HJ.out.2.2.2.1)
          have HS5 : Hid (StG (wr.alloc (.cells #[.int .i64 y.src, .int .i64 y.at_, .int .i64 y.len] 48)) ⟨blk, some ⟨pb, po, none⟩, pc, parts⟩) := Lib.hid (HJ.out.2.2.2.2.same hb5.size (fun b' cs p hb' => hb5.block b' (Array.getElem?_eq_some_iff.1 hb').1))
          have hsz5 : rk + 1 ≤ (wr.alloc (.cells #[.int .i64 y.src, .int .i64 y.at_, .int .i64 y.len] 48)).heap.size := by simp; omega
          clear hb5 HJ hszJ hy d0 d1 d2 hpb
          generalize hyb : wr.heap.size = yb at *
          generalize wr.alloc (.cells #[.int .i64 y.src, .int .i64 y.at_, .int .i64 y.len] 48) = W5 at *
          clear hyb wr
          have y0 : W5.cell? ⟨yb, 0, none⟩ = some (.int .i64 y.src) := cell_of_row _ _ 0 _ 48 (0, 0) HY5.out
          have y1 : W5.cell? ⟨yb, 1, none⟩ = some (.int .i64 y.at_) := cell_of_row _ _ 1 _ 48 (0, 0) HY5.out
          have y2 : W5.cell? ⟨yb, 2, none⟩ = some (.int .i64 y.len) := cell_of_row _ _ 2 _ 48 (0, 0) HY5.out
          have v0 : W5.cell? ⟨vb, 0, none⟩ = some (.int .i64 blk) := cell_of_row _ _ 0 _ 70 (0, 0) HX5.out
          by_cases hc : y.src = 0 ∧ blk ≠ b
          · obtain ⟨hc1, hc2⟩ := hc
            have f1 : (y.src == 0) = true := by simpa using hc1
            have f2 : (blk != b) = true := by simpa using hc2
            have f3 : (blk == b) = false := by simpa using hc2
            have HN6 : Hid (needI b ⟨blk, some ⟨pb, po, none⟩, pc, parts⟩ (k + 1) = needI b ⟨blk, some ⟨pb, po, none⟩, pc, parts⟩ k ++ [(y.at_, y.at_ + y.len)]) := Lib.hid (by rw [HNX.out, if_pos ⟨hc1, hc2⟩])
            clear hc1 hc2 HNX
            go_wp2_with (at_builtin; refine wpList_append_own _ rfl (.tmp 42) (.tmp 51) 29 rfl (rk + 1) 67 i0 _ 2 16 Try.underlying29 hi hz0 hz1 hz2 rfl (by decide) _ _ _ rfl (HO5.out.alloc _).2 ⟨W5.heap.size, 0, none⟩ 1 1 (cells [(y.at_, y.at_ + y.len)]) rfl rfl (new_one _ (y.at_, y.at_ + y.len) _ rfl) (cells_one_cell _) (by unfold maxLen; omega) (by omega) (by simp; omega) ?_)
            intro v' w6 hown' hgrow _
            have HG := Lib.hid hgrow
            have hlt5 : ∀ q, (Value.slice A n c).ownBlock = some q → rk + 1 ≤ q ∧ q < W5.heap.size := HO5.out.2.lt
            obtain ⟨⟨A8, c8, hv, hown2⟩, _, hbw, hzz, _⟩ := appL_step HO5.out (Below.refl (rk + 1) W5) hsz5 ((Below.refl _ _).alloc (Nat.le_refl _) _) (m := 1) (K := [(y.at_, y.at_ + y.len)]) rfl hown' hgrow
            rw [hv]
            have HO6 : Hid (Own w6 (rk + 1) A8 (n + 1) c8 (needK u b L ++ (needI b ⟨blk, some ⟨pb, po, none⟩, pc, parts⟩ k ++ [(y.at_, y.at_ + y.len)]))) := Lib.hid (by rw [← List.append_assoc]; exact hown2)
            have HB6 := Lib.hid (HB5.out.trans (hbw.mono (by omega)))
            have hrkl := HR5.out.vm.lt
            have HR6 := Lib.hid ((HR5.out.kept (World.grownBy_alloc W5 (.cells #[.int .i64 y.at_, .int .i64 (y.at_ + y.len)] 67) none) (by simp) (by simp)).kept hgrow (fun e => by have := (hlt5 sb e.symm).1; have := HSB4.out; have := HRK.out; omega) (fun e => by have := (hlt5 rk e.symm).1; omega))
            have e6 : ∀ (q : Nat) cs T (p : Nat × Nat), W5.heap[q]? = some (Obj.cells cs T p) → T ≠ 67 → w6.heap[q]? = W5.heap[q]? := fun q cs T p hq hT => by
              have hl := (Array.getElem?_eq_some_iff.1 hq).1
              rw [HG.out.block q (by simp; omega) (fun e => ownR_ne HO5.out hq hT e.symm)]
              exact (((Below.refl W5.heap.size W5).alloc (Nat.le_refl _) _).block q hl)
            have HX6 := Lib.hid ((e6 _ _ _ _ HX5.out (by decide)).trans HX5.out)
            have hszz : W5.heap.size ≤ w6.heap.size := by have := hgrow.size; simp at this; omega
            have HS6 := Lib.hid (HS5.out.same hszz (fun b' cs p hb' => e6 _ _ _ _ hb' (by decide)))
            have hsz6 : rk + 1 ≤ w6.heap.size := by omega
            clear hgrow hown' hv hown2 hbw hzz hlt5 e6 y0 y1 y2 v0 hrkl
            go_wp2_with fail
            go_roundw
            case measure => simp [intOf]; omega
            case rel => exact ⟨k + 1, A8, n + 1, c8, by omega, by go_num, rfl, by omega, Lib.hid ⟨HR6.out, by rw [HN6.out]; exact HO6.out, HB6.out, HX6.out, HS6.out⟩, hsz6⟩
          · have HN6 : Hid (needI b ⟨blk, some ⟨pb, po, none⟩, pc, parts⟩ (k + 1) = needI b ⟨blk, some ⟨pb, po, none⟩, pc, parts⟩ k) := Lib.hid (by rw [HNX.out, if_neg hc, List.append_nil])
            clear HNX
            by_cases hc1 : y.src = 0
            · have hc2 : blk = b := by
                by_cases h : blk = b
                · exact h
                · exact absurd ⟨hc1, h⟩ hc
              have f1 : (y.src == 0) = true := by simpa using hc1
              have f2 : (blk != b) = false := by simpa using hc2
              have f3 : (blk == b) = true := by simpa using hc2
              clear hc hc1 hc2
              go_wp2_with fail
              go_roundw
              case measure => simp [intOf]; omega
              case rel => exact ⟨k + 1, A, n, c, by omega, by go_num, rfl, by omega, Lib.hid ⟨HR5.out, by rw [HN6.out]; exact HO5.out, HB5.out, HX5.out, HS5.out⟩, hsz5⟩
            · have f1 : (y.src == 0) = false := by simpa using hc1
              clear hc hc1
              go_wp2_with fail
              go_roundw
              case measure => simp [intOf]; omega
              case rel => exact ⟨k + 1, A, n, c, by omega, by go_num, rfl, by omega, Lib.hid ⟨HR5.out, by rw [HN6.out]; exact HO5.out, HB5.out, HX5.out, HS5.out⟩, hsz5⟩
        · obtain rfl : k = parts.length := by omega
          clear hlk
          have HE : Hid (needK u b (L ++ [blk]) = needK u b L ++ needI b ⟨blk, PA, pc, parts⟩ parts.length) := Lib.hid (by rw [HKN.out, needI_all _ _ _ (Nat.le_refl _)])
          go_wp2_with fail
          go_roundg c'
          case measure => exact hlt
          case rel => exact ⟨L ++ [blk], A, n, c, rfl, by simp only [List.length_append, List.length_cons, List.length_nil]; omega, Lib.hid ⟨HJ.out.1, by rw [HE.out]; exact HJ.out.2.1, HJ.out.2.2.1⟩, hszJ⟩
end Go.Proofs.Yteceephenfmdoaa
