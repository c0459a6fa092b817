/-
  What reads answers: the blocks whose bytes a step reads, but its own one and what is stashed.
-/
import Derived.Test.YteceephenfmdoaaKReads
import Derived.Test.YteceephenfmdoaaMSmall
import Derived.Test.YteceephenfmdoaaRD
import Derived.Test.YteceephenfmdoaaRB
namespace Go.Proofs.Yteceephenfmdoaa
open Go.RowKit
theorem flat_prefix {L : List R} {i j : Nat} {r : R} (h : L[i]? = some r) : ∃ t, (L.take i).flatMap blocksR ++ (blocksR r).take j ++ t = L.flatMap blocksR := by
  have h1 := (List.getElem?_eq_some_iff.1 h)
  refine ⟨(blocksR r).drop j ++ (L.drop (i + 1)).flatMap blocksR, ?_⟩
  have e : L = L.take i ++ (r :: L.drop (i + 1)) := by rw [← h1.2, ← List.drop_eq_getElem_cons, List.take_append_drop]
  have e2 : L.flatMap blocksR = (L.take i).flatMap blocksR ++ (blocksR r ++ (L.drop (i + 1)).flatMap blocksR) := by
    conv => lhs; rw [e]
    rw [List.flatMap_append, List.flatMap_cons]
  rw [e2, List.append_assoc, ← List.append_assoc ((blocksR r).take j), List.take_append_drop]
theorem fold_len_le (own : Int) {L : List R} (hR : Right L) (hb : ∀ x, In L x → x < 1048576) {p t : List Int} (h : p ++ t = L.flatMap blocksR) : (p.foldl (addB own) []).length ≤ 16384 := by
  have h1 := (blocks_rise L (-1) hR)
  rw [← h, List.pairwise_append] at h1
  obtain ⟨h2, h3⟩ := fold_addB own p h1.1.1 [] (by simp) (by simp)
  have := rise_len _ 0 16384 h2 (fun c hc => by
    have h4 := ((h3 c).1 hc).resolve_left (by simp)
    have h5 : c ∈ L.flatMap blocksR := by rw [← h]; exact List.mem_append_left _ h4.1
    obtain ⟨r, hr, hc2⟩ := List.mem_flatMap.1 h5
    have h6 := (mem_blocksR r c).1 hc2
    have h7 := right_mem hR hr
    have h8 := hb (r.2 - 1) ⟨r, hr, by omega, by omega⟩
    omega)
  omega
theorem flat_next {L : List R} {i : Nat} {r : R} (h : L[i]? = some r) : (L.take (i + 1)).flatMap blocksR = (L.take i).flatMap blocksR ++ (blocksR r).take (cntR r) := by
  have e : (blocksR r).take (cntR r) = blocksR r := List.take_of_length_le (by rw [blocksR_len]; exact Nat.le_refl _)
  rw [Sc.take_snoc L i r h, List.flatMap_append, e]
  simp
theorem blocks_next {r : R} {j : Nat} (hj : j < cntR r) (p : List Int) : p ++ (blocksR r).take (j + 1) = (p ++ (blocksR r).take j) ++ [r.1 / 64 + (j : Int)] := by
  rw [Sc.take_snoc _ _ _ (blocksR_get r j hj), List.append_assoc]
theorem fold_snoc (own : Int) (p : List Int) (b : Int) (o : List Int) : (p ++ [b]).foldl (addB own) o = addB own (p.foldl (addB own) o) b := by rw [List.foldl_append]; rfl
theorem addB_own (own : Int) (o : List Int) : addB own o own = o := by simp [addB]
theorem addB_nil {own b : Int} (h : b ≠ own) : addB own [] b = [b] := by simp [addB, h]
theorem addB_same {own b t : Int} (L : List Int) (ht : t = b) : addB own (L ++ [t]) b = L ++ [t] := by subst ht; simp [addB]
theorem addB_new {own b t : Int} (L : List Int) (h : b ≠ own) (ht : t ≠ b) : addB own (L ++ [t]) b = L ++ [t] ++ [b] := by simp [addB, h, ht]
theorem ownI_ne {w : World} {base : Nat} {A : Option Addr} {n c : Nat} {l : List Int} (h : OwnI w base A n c l) {b : Nat} {cs : Array Value} {T : TypeId} {p : Nat × Nat} (hb : w.heap[b]? = some (.cells cs T p)) (hT : T ≠ 3 := by decide) : (Value.slice A n c).ownBlock ≠ some b := by
  rcases h.2.2 with ⟨hv, _⟩ | ⟨g, cap', cur, hv, _, hg, _⟩
  · rw [hv]; simp [Value.ownBlock]
  · rw [hv]
    simp only [Value.ownBlock, ne_eq, Option.some.injEq]
    rintro rfl
    rw [hg] at hb
    injection hb with hb
    injection hb with _ hb
    exact hT hb.symm
set_option maxRecDepth 100000 in
set_option maxHeartbeats 2000000 in
theorem reads_any (g : Nat) (own : Int) (PA : Option Addr) (pn pc : Nat) (parts : List S) (SA : Option Addr) (sn sc : Nat) (stash : List R) (w : World) (hp : parts.length = pn) (hr : Sc.Rd w w.heap.size PA parts) (hok : Sc.Ok parts) (hpl : pn ≤ 1000)
    (_hown : I64 own) (hc : w.cell? ⟨g, 2, none⟩ = some (.slice SA sn sc)) (hs : stash.length = sn) (hrs : Rd w w.heap.size SA stash) (hIs : IR stash) (hsl : sn ≤ 100000) (hb : ∀ x, Need parts x → x < 1048576) :
    Calls Try.prog 43 #[.pointer (some ⟨g, 0, none⟩), .agg #[.int .i64 own, .slice PA pn pc]] w fun e w' => (∃ A n c, e = .returned (.slice A n c) ∧ OwnI w' w.heap.size A n c (reads own parts stash)) ∧ Below w.heap.size w w' := by
  obtain ⟨i0, hi, hz0, hz1, hz2⟩ := info_parts info29
  obtain ⟨k0, ki, kz0, kz1, kz2⟩ := info_parts info3
  have hw1 : Below w.heap.size w (w.alloc (.cells #[.int .i64 own, .slice PA pn pc] 70)) := (Below.refl _ _).alloc (Nat.le_refl _) _
  have HW1 := Lib.hid hw1
  have b0 : (w.alloc (.cells #[.int .i64 own, .slice PA pn pc] 70)).cell? ⟨w.heap.size, 0, none⟩ = some (.int .i64 own) := cell_new w _ 70 0
  have b1 : (w.alloc (.cells #[.int .i64 own, .slice PA pn pc] 70)).cell? ⟨w.heap.size, 1, none⟩ = some (.slice PA pn pc) := cell_new w _ 70 1
  have HR := Lib.hid (Sc.Rd.up hr hw1)
  have HRS := Lib.hid (hrs.up hw1)
  have hc1 := (hw1.cell (p := ⟨g, 2, none⟩) (World.block_lt_of_cell? w _ hc)).trans hc
  have HP := Lib.hid hp; have HOK := Lib.hid hok; have HS := Lib.hid hs; have HIS := Lib.hid hIs
  have HL : Hid (Right (lessR (needL parts) stash) ∧ Nn (lessR (needL parts) stash) ∧ ∀ x, In (lessR (needL parts) stash) x → x < 1048576) := Lib.hid ⟨(lessR_is _ _).1, lessR_nn (needL_ir hok), fun x hx => hb x ((in_needL _ _).1 (((lessR_is _ _).2 x).1 hx).2.1)⟩
  clear hp hr hok hc hs hrs hIs hw1 hb
  unfold I64 at _hown
  generalize hL0 : lessR (needL parts) stash = L at HL
  have HL0 := Lib.hid hL0
  have HRD : Hid (reads own parts stash = readsL own L) := Lib.hid (by unfold reads; rw [hL0])
  clear hL0
  go_enter Try.func43, Try.ntmps43
  go_wp2_with fail
  generalize hW1 : w.alloc (.cells #[.int .i64 own, .slice PA pn pc] 70) = W1 at *
  have hz1' : W1.heap.size = w.heap.size + 1 := by rw [← hW1]; simp
  have HZ1 := Lib.hid hz1'
  generalize hbx : w.heap.size = bx at *
  have HBX := Lib.hid hbx
  clear hW1 hbx hz1'
  go_loopw [5, 15] (fun v i wr => ∃ (k : Nat) (A' : Option Addr) (n c : Nat), k ≤ pn ∧ n ≤ k ∧ i = .int .i64 k ∧ v = .slice A' n c ∧ Hid (Own wr W1.heap.size A' n c (needL (parts.take k)) ∧ Below W1.heap.size W1 wr)) (fun _ i _ => pn - (intOf i).toNat)
  case atStart => exact ⟨0, _, _, _, Nat.zero_le _, Nat.le_refl _, rfl, rfl, Lib.hid ⟨Own.nil _ _, Below.refl _ _⟩⟩
  case round =>
    obtain ⟨k, A', n, c, hk, hn, rfl, rfl, HI⟩ := hrel
    by_cases hlt : k < pn
    · obtain ⟨x, hx⟩ := get_some parts k (by have := HP.out; omega)
      obtain ⟨b, off, rfl, hbb, c0, c1, c2⟩ := (HR.out.below HI.out.2 (Nat.le_refl _)) k x hx
      have htk := Sc.take_snoc parts k x hx
      have hxok := HOK.out x (List.mem_of_getElem? hx)
      have hsz := HI.out.2.size
      unfold Sc.okS at hxok
      by_cases hsrc : x.src = 0
      · have HN : Hid (needL (parts.take (k + 1)) = needL (parts.take k) ++ [(x.at_, x.at_ + x.len)]) := Lib.hid (by rw [htk, needL_snoc]; simp [rngS, hsrc])
        have hb2 : (x.src == 0) = true := by simpa using hsrc
        have q1 : IntKind.i64.wrap (x.at_ + x.len) = x.at_ + x.len := IntWalk.i64_in _ (by omega)
        clear hx htk
        go_wp2_with (at_builtin; refine wpList_append_own _ rfl (.tmp 22) (.tmp 31) 29 rfl W1.heap.size 67 i0 _ 2 16 Try.underlying29 hi hz0 hz1 hz2 rfl (by decide) _ _ _ rfl ((HI.out.1.alloc _).alloc _).2 ⟨wr.heap.size + 1, 0, none⟩ 1 1 (cells [(x.at_, x.at_ + x.len)]) rfl rfl (new_one (wr.alloc _) (x.at_, x.at_ + x.len) _ (by simp)) (cells_one_cell _) (by unfold maxLen; omega) (by omega) (by simp; omega) ?_)
        intro v' w4 hown' hgrow _
        obtain ⟨⟨A8, c8, hv, hown2⟩, hb3, _, _, _⟩ := appL_step HI.out.1 HI.out.2 hsz (((Below.refl _ _).alloc (Nat.le_refl _) _).alloc (by simp) _) (m := 1) (K := [(x.at_, x.at_ + x.len)]) rfl hown' hgrow
        rw [hv]
        have HO2 := Lib.hid hown2
        have HB3 := Lib.hid hb3
        clear hgrow hown' hv hown2 hb3
        go_wp2_with fail
        go_roundw
        case measure => simp [intOf]; omega
        case rel => exact ⟨k + 1, A8, n + 1, c8, by omega, by omega, by go_num, rfl, Lib.hid ⟨by rw [HN.out]; exact HO2.out, HB3.out⟩⟩
      · have HN : Hid (needL (parts.take (k + 1)) = needL (parts.take k)) := Lib.hid (by rw [htk, needL_snoc]; simp [rngS, hsrc])
        have hb2 : (x.src == 0) = false := by simpa using hsrc
        clear hx htk
        go_wp2_with fail
        go_roundw
        case measure => simp [intOf]; omega
        case rel => exact ⟨k + 1, A', n, c, by omega, by omega, by go_num, rfl, Lib.hid ⟨by rw [HN.out]; exact HI.out.1.alloc _, HI.out.2.alloc hsz _⟩⟩
    · obtain rfl : k = pn := by omega
      clear hlt
      have HO : Hid (Own wr W1.heap.size A' n c (needL parts)) := Lib.hid (by have := HI.out.1; rwa [List.take_of_length_le (Nat.le_of_eq HP.out)] at this)
      have hc2 := (HI.out.2.cell (p := ⟨g, 2, none⟩) (World.block_lt_of_cell? W1 _ hc1)).trans hc1
      go_wp2_with fail
      refine (Less_any A' n c SA sn sc wr (needL parts) stash HO.out.1 HO.out.rd (needL_ir HOK.out) HS.out (HRS.out.up HI.out.2 |>.more (Nat.le_refl _)) HIS.out (by omega) hsl).mono ?_
      rw [HL0.out]
      rintro e w2 ⟨⟨A2, n2, c2, rfl, ho2⟩, hb2⟩
      have HB2 := Lib.hid (HW1.out.trans ((HI.out.2.mono (by have := HZ1.out; omega)).trans (hb2.mono (by have := HI.out.2.size; have := HZ1.out; omega))))
      have HO2 := Lib.hid ho2
      have hbx2 : bx + 1 ≤ w2.heap.size := by have := hb2.size; have := HI.out.2.size; have := HZ1.out; omega
      have b0' := (hb2.cell (p := ⟨bx, 0, none⟩) (by have := HI.out.2.size; have := HZ1.out; show bx < _; omega)).trans ((HI.out.2.cell (p := ⟨bx, 0, none⟩) (by have := HZ1.out; show bx < _; omega)).trans b0)
      have hl2 := ho2.1
      have hn2 : n2 ≤ 9223372036854775807 := by have := ho2.cap; unfold maxLen at this; omega
      have HL2 := Lib.hid hl2
      clear hb2 HI b0 b1 hc1 hc2 HO HR HRS ho2 hl2
      go_wp2_with fail
      go_loopw [8, 41] (fun v i wr => ∃ (k : Nat) (B : Option Addr) (m c : Nat) (o : List Int), k ≤ n2 ∧ m ≤ 16384 ∧ i = .int .i64 k ∧ v = .slice B m c ∧ Hid (OwnI wr w2.heap.size B m c o ∧ o = ((L.take k).flatMap blocksR).foldl (addB own) [] ∧ Below w2.heap.size w2 wr)) (fun _ i _ => n2 - (intOf i).toNat)
      case atStart => exact ⟨0, _, _, _, [], Nat.zero_le _, by omega, rfl, rfl, Lib.hid ⟨OwnI.nil _ _, rfl, Below.refl _ _⟩⟩
      case round =>
        obtain ⟨i, B, m, c, o, hi5, hm5, rfl, rfl, HI⟩ := hrel
        by_cases hlt : i < n2
        · obtain ⟨r, hr⟩ := get_some L i (by have := HL2.out; omega)
          have hrn := HL.out.2.1 r (List.mem_of_getElem? hr)
          have hrb := HL.out.2.2 (r.2 - 1) ⟨r, List.mem_of_getElem? hr, by omega, by omega⟩
          obtain ⟨b2, off2, rfl, hbb, c0, c1⟩ := (HO2.out.rd.below HI.out.2.2 (Nat.le_refl _)) i r hr
          have hsz := HI.out.2.2.size
          have HR := Lib.hid hr
          have q1 : r.1.tdiv 64 = r.1 / 64 := tdiv64 _ (by omega)
          have HB3 := Lib.hid (HI.out.2.2.alloc hsz (.cells #[.int .i64 r.1, .int .i64 r.2] 67))
          have HX3 : Hid ((wr.alloc (.cells #[.int .i64 r.1, .int .i64 r.2] 67)).heap[wr.heap.size]? = some (.cells #[.int .i64 r.1, .int .i64 r.2] 67 (0, 0))) := Lib.hid (heap_alloc_new wr _)
          have HI3 := Lib.hid (HI.out.1.alloc (.cells #[.int .i64 r.1, .int .i64 r.2] 67))
          have HE := Lib.hid HI.out.2.1
          clear hr
          go_wp2_with fail
          generalize hvb : wr.heap.size = vb at *
          generalize wr.alloc (.cells #[.int .i64 r.1, .int .i64 r.2] 67) = W3 at *
          clear HI hsz c0 c1
          go_loopw [8, 11] (fun v x wx => ∃ (j : Nat) (B : Option Addr) (m c : Nat) (o : List Int), j ≤ cntR r ∧ m ≤ 16384 ∧ x = .int .i64 (r.1 / 64 + j) ∧ v = .slice B m c ∧ Hid (OwnI wx w2.heap.size B m c o ∧ o = ((L.take i).flatMap blocksR ++ (blocksR r).take j).foldl (addB own) [] ∧ Below w2.heap.size w2 wx ∧ wx.heap[vb]? = some (.cells #[.int .i64 r.1, .int .i64 r.2] 67 (0, 0)))) (fun _ x _ => ((r.2 + 63) / 64 - intOf x).toNat)
          case atStart => exact ⟨0, _, _, _, o, Nat.zero_le _, hm5, by simp, rfl, Lib.hid ⟨HI3.out, by rw [HE.out]; simp, HB3.out, HX3.out⟩⟩
          case round =>
            clear HI3 HB3 HX3 HE hvb hm5
            obtain ⟨j, B, m, c, o, hj, hm5, rfl, rfl, HJ⟩ := hrel
            have x1 : wr.cell? ⟨vb, 1, none⟩ = some (.int .i64 r.2) := cell_of_row _ _ 1 _ 67 (0, 0) HJ.out.2.2.2
            have hcnt : cntR r = ((r.2 + 63) / 64 - r.1 / 64).toNat := rfl
            have w1' : IntKind.i64.wrap ((r.1 / 64 + (j : Int)) * 64) = (r.1 / 64 + (j : Int)) * 64 := IntWalk.i64_in _ (by omega)
            have w2' : IntKind.i64.wrap (r.1 / 64 + (j : Int) + 1) = r.1 / 64 + (j : Int) + 1 := IntWalk.i64_in _ (by omega)
            have y0 : wr.cell? ⟨bx, 0, none⟩ = some (.int .i64 own) := (HJ.out.2.2.1.cell (p := ⟨bx, 0, none⟩) (by show bx < _; omega)).trans b0'
            have hsz := HJ.out.2.2.1.size
            by_cases hlj : j < cntR r
            · have hlt3 : (r.1 / 64 + (j : Int)) * 64 < r.2 := by omega
              have HN := Lib.hid (blocks_next hlj ((L.take i).flatMap blocksR))
              generalize hb5 : r.1 / 64 + (j : Int) = bj at *
              obtain ⟨tl, htl⟩ := flat_prefix (j := j) HR.out
              have HTL := Lib.hid htl
              have HNE : Hid ((Value.slice B m c).ownBlock ≠ some vb) := Lib.hid (ownI_ne HJ.out.1 HJ.out.2.2.2)
              by_cases hbo : bj = own
              · have HA : Hid (((L.take i).flatMap blocksR ++ (blocksR r).take (j + 1)).foldl (addB own) [] = o) := Lib.hid (by rw [HN.out, fold_snoc, ← HJ.out.2.1, hbo, addB_own])
                have f1 : (bj != own) = false := by simpa using hbo
                have f2 : (bj == own) = true := by simpa using hbo
                clear htl hbo
                go_wp2_with fail
                go_roundw
                case measure => simp [intOf]; omega
                case rel => exact ⟨j + 1, B, m, c, o, by omega, hm5, by congr 1; omega, rfl, Lib.hid ⟨HJ.out.1, HA.out.symm, HJ.out.2.2⟩⟩
              · have f1 : (bj != own) = true := by simpa using hbo
                have f2 : (bj == own) = false := by simpa using hbo
                have HLEN : Hid ((addB own o bj).length ≤ 16384) := Lib.hid (by
                  obtain ⟨tl2, htl2⟩ := flat_prefix (j := j + 1) HR.out
                  have h := fold_len_le own HL.out.1 HL.out.2.2 htl2
                  rwa [HN.out, fold_snoc, ← HJ.out.2.1] at h)
                rcases Sc.snoc_cases o with rfl | ⟨o', t, rfl⟩
                · obtain rfl : m = 0 := HJ.out.1.1.symm
                  have HA : Hid (((L.take i).flatMap blocksR ++ (blocksR r).take (j + 1)).foldl (addB own) [] = [] ++ [bj]) := Lib.hid (by rw [HN.out, fold_snoc, ← HJ.out.2.1, addB_nil hbo]; rfl)
                  clear htl hbo
                  go_wp2_with (at_builtin; refine wpList_append_own _ rfl (.tmp 74) (.tmp 76) 71 rfl w2.heap.size 3 k0 _ 1 8 Try.underlying71 ki kz0 kz1 kz2 rfl (by decide) _ _ _ rfl (HJ.out.1.alloc _).2 ⟨wr.heap.size, 0, none⟩ 1 1 (icells [bj]) rfl rfl (newi_one _ _ _ rfl) (icells_one _) (by unfold maxLen; omega) (by omega) (by simp; omega) ?_)
                  intro v' w4 hown' hgrow _
                  have HG := Lib.hid hgrow
                  obtain ⟨⟨A8, c8, hv, hown2⟩, hb3, _, _, _⟩ := appI_step HJ.out.1 HJ.out.2.2.1 hsz ((Below.refl _ _).alloc (Nat.le_refl _) _) (m := 1) (K := [bj]) rfl hown' hgrow
                  rw [hv]
                  have HX4 : Hid (w4.heap[vb]? = some (.cells #[.int .i64 r.1, .int .i64 r.2] 67 (0, 0))) := Lib.hid (((HG.out.block _ (by have := (Array.getElem?_eq_some_iff.1 HJ.out.2.2.2).1; simp; omega) (fun e => HNE.out e.symm)).trans ((Below.refl wr.heap.size wr).alloc (Nat.le_refl _) _ |>.block _ (Array.getElem?_eq_some_iff.1 HJ.out.2.2.2).1)).trans HJ.out.2.2.2)
                  have HO5 := Lib.hid hown2
                  have HB5 := Lib.hid hb3
                  clear hgrow hown' hv hown2 hb3
                  go_wp2_with fail
                  go_roundw
                  case measure => simp [intOf]; omega
                  case rel => exact ⟨j + 1, A8, 0 + 1, c8, [] ++ [bj], by omega, by omega, by congr 1; omega, rfl, Lib.hid ⟨HO5.out, HA.out.symm, HB5.out, HX4.out⟩⟩
                · obtain ⟨m, rfl⟩ : ∃ x, m = x + 1 := ⟨o'.length, by have := HJ.out.1.1; simp at this; omega⟩
                  have hol : o'.length = m := by have := HJ.out.1.1; simpa using this
                  obtain ⟨b6, off6, rfl, hb6, d0⟩ := HJ.out.1.rd m t (by rw [← hol]; simp)
                  have g1 : (((m + 1 : Nat) : Int) == 0) = false := by simp; omega
                  have g2 : IntKind.i64.wrap (((m + 1 : Nat) : Int) - 1) = (m : Int) := by rw [IntWalk.i64_in _ (by omega)]; omega
                  have g3 : m < m + 1 := by omega
                  by_cases ht : t = bj
                  · have HA : Hid (((L.take i).flatMap blocksR ++ (blocksR r).take (j + 1)).foldl (addB own) [] = o' ++ [t]) := Lib.hid (by rw [HN.out, fold_snoc, ← HJ.out.2.1, addB_same _ ht])
                    have f3 : (t != bj) = false := by simpa using ht
                    have f4 : (t == bj) = true := by simpa using ht
                    clear htl hbo ht
                    go_wp2_with fail
                    go_roundw
                    case measure => simp [intOf]; omega
                    case rel => exact ⟨j + 1, _, m + 1, c, o' ++ [t], by omega, hm5, by congr 1; omega, rfl, Lib.hid ⟨HJ.out.1, HA.out.symm, HJ.out.2.2⟩⟩
                  · have HA : Hid (((L.take i).flatMap blocksR ++ (blocksR r).take (j + 1)).foldl (addB own) [] = (o' ++ [t]) ++ [bj]) := Lib.hid (by rw [HN.out, fold_snoc, ← HJ.out.2.1, addB_new _ hbo ht])
                    have hm6 : m + 1 + 1 ≤ 16384 := by
                      have h := HLEN.out
                      rw [addB_new _ hbo ht] at h
                      simp at h
                      omega
                    have f3 : (t != bj) = true := by simpa using ht
                    have f4 : (t == bj) = false := by simpa using ht
                    clear htl hbo ht
                    go_wp2_with (at_builtin; refine wpList_append_own _ rfl (.tmp 74) (.tmp 76) 71 rfl w2.heap.size 3 k0 _ 1 8 Try.underlying71 ki kz0 kz1 kz2 rfl (by decide) _ _ _ rfl (HJ.out.1.alloc _).2 ⟨wr.heap.size, 0, none⟩ 1 1 (icells [bj]) rfl rfl (newi_one _ _ _ rfl) (icells_one _) (by unfold maxLen; omega) (by omega) (by simp; omega) ?_)
                    intro v' w4 hown' hgrow _
                    have HG := Lib.hid hgrow
                    obtain ⟨⟨A8, c8, hv, hown2⟩, hb3, _, _, _⟩ := appI_step HJ.out.1 HJ.out.2.2.1 hsz ((Below.refl _ _).alloc (Nat.le_refl _) _) (m := 1) (K := [bj]) rfl hown' hgrow
                    rw [hv]
                    have HX4 : Hid (w4.heap[vb]? = some (.cells #[.int .i64 r.1, .int .i64 r.2] 67 (0, 0))) := Lib.hid (((HG.out.block _ (by have := (Array.getElem?_eq_some_iff.1 HJ.out.2.2.2).1; simp; omega) (fun e => HNE.out e.symm)).trans ((Below.refl wr.heap.size wr).alloc (Nat.le_refl _) _ |>.block _ (Array.getElem?_eq_some_iff.1 HJ.out.2.2.2).1)).trans HJ.out.2.2.2)
                    have HO5 := Lib.hid hown2
                    have HB5 := Lib.hid hb3
                    clear hgrow hown' hv hown2 hb3
                    go_wp2_with fail
                    go_roundw
                    case measure => simp [intOf]; omega
                    case rel => exact ⟨j + 1, A8, m + 1 + 1, c8, (o' ++ [t]) ++ [bj], by omega, by omega, by congr 1; omega, rfl, Lib.hid ⟨HO5.out, HA.out.symm, HB5.out, HX4.out⟩⟩
            · obtain rfl : j = cntR r := by omega
              have hge : r.2 ≤ (r.1 / 64 + (cntR r : Int)) * 64 := by omega
              have HA : Hid (((L.take (i + 1)).flatMap blocksR).foldl (addB own) [] = o) := Lib.hid (by rw [flat_next HR.out, ← HJ.out.2.1])
              clear hlj
              generalize (r.1 / 64 + (cntR r : Int)) = bj at *
              go_wp2_with fail
              go_roundw
              case measure => simp [intOf]; omega
              case rel => exact ⟨i + 1, B, m, c, o, by omega, hm5, by go_num, rfl, Lib.hid ⟨HJ.out.1, HA.out.symm, HJ.out.2.2.1⟩⟩
        · obtain rfl : i = n2 := by omega
          clear hlt
          have HA : Hid (o = reads own parts stash) := Lib.hid (by rw [HI.out.2.1, HRD.out, List.take_of_length_le (Nat.le_of_eq HL2.out)]; rfl)
          go_wp2_with fail
          go_ret
          obtain rfl := HBX.out
          exact ⟨⟨_, _, _, rfl, by rw [← HA.out]; exact HI.out.1.mono (by omega)⟩, HB2.out.trans (HI.out.2.2.mono (by omega))⟩
end Go.Proofs.Yteceephenfmdoaa
