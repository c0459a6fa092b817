/-
  What the space's Back answers and leaves, of a mark that may be.
-/
import Derived.Test.YtobeppeadkoieaaSpb
namespace Go.Proofs.Ytobeppeadkoieaa
open Go.RowKit
theorem RdI.dropAd {w : World} {B : Nat} {A : Option Addr} {l : List Int} (h : RdI w B A l) (m c : Nat) (hc : l.length ≤ c) : RdI w B (if c = m then A else A.map (fun x => x.add m)) (l.drop m) := by
  intro k v hv
  rw [List.getElem?_drop] at hv
  have hk := (List.getElem?_eq_some_iff.1 hv).1
  obtain ⟨b, off, rfl, hb, hcell⟩ := h (m + k) v hv
  rw [if_neg (by omega)]
  refine ⟨b, off + m, ?_, hb, by rw [Nat.add_assoc]; exact hcell⟩
  show some ((⟨b, off, none⟩ : Addr).add m) = _
  congr 1
  unfold Addr.add; split <;> simp_all
section
variable {w : World} {sb bu bw : Nat} {res : Int} {u wt : Int → Bool} {A : Option Addr} {c : Nat} {tk : List Int} {N : Nat}
set_option maxHeartbeats 1600000 in
set_option maxRecDepth 100000 in
theorem Back_ok (h : Sp w sb bu bw res u wt A c tk N) (m : Nat) (hm : m ≤ tk.length) (htk : tk.length ≤ 1000000) (hI : ∀ x ∈ tk, I64 x) :
    Calls Try.prog 14 #[.pointer (some ⟨sb, 0, none⟩), .int .i64 m] w fun e w' => ∃ u' out, (u', out) = (tk.drop m).foldl bstep (u, []) ∧ ∃ Ao no co, e = .returned (.tuple #[.slice Ao no co, .int .i64 0]) ∧
      Sp w' sb bu bw res u' wt A c (tk.take m) N ∧ OwnI w' w.heap.size Ao no co (sortI out) ∧ Below bu w w' ∧ Kp w w' sb A A := by
  obtain ⟨i0, hi, hz0, hz1, hz2⟩ := info_parts info3
  have c3 := h.c3
  have hcap := h.row.cap
  have HH := Lib.hid h
  have HI := Lib.hid hI
  have l1 := h.l1
  have l2 := h.l2
  have lt := h.lt
  unfold maxLen at hcap
  clear h hI
  have d1 : decide ((m : Int) < 0) = false := decide_eq_false (by omega)
  have d2 : decide ((tk.length : Int) < (m : Int)) = false := decide_eq_false (by omega)
  have d3 : decide (tk.length < m) = false := decide_eq_false (by omega)
  have e1 : (m : Int) ≤ (tk.length : Int) := by omega
  have e2 : (tk.length : Int) ≤ (c : Int) := by omega
  obtain ⟨Ad, hAd⟩ : ∃ Ad, (if c = m then A else A.map (fun x => x.add m)) = Ad := ⟨_, rfl⟩
  have HAd := Lib.hid hAd
  go_enter Try.func14, Try.ntmps14
  go_wp2_with (rw [hAd])
  clear hAd
  generalize hBB : w.heap.size = BB at *
  have HB := Lib.hid hBB; clear hBB
  go_loopw [6, 31] (fun v i wr => ∃ (k n : Nat) (A' : Option Addr) (c' : Nat) (u' : Int → Bool) (out : List Int), k ≤ tk.length - m ∧ i = .int .i64 k ∧ v = .slice A' n c' ∧ Hid ((u', out) = ((tk.drop m).take k).foldl bstep (u, [])) ∧ Hid (OwnI wr BB A' n c' out) ∧ Hid (Sp wr sb bu bw res u' wt A c tk N) ∧ Hid (Below bu w wr) ∧ Hid (Kp w wr sb A A)) (fun _ i _ => tk.length - m - (intOf i).toNat)
  case atStart => exact ⟨0, 0, none, 0, u, [], Nat.zero_le _, rfl, rfl, Lib.hid rfl, Lib.hid (OwnI.nil _ _), HH, Lib.hid (Below.refl _ _), Lib.hid (Kp.refl _ _ _)⟩
  case round =>
    obtain ⟨k, n, A', c', u', out, hk, rfl, rfl, hf, hown, hS, hb, hK⟩ := hrel
    have hsz : BB ≤ wr.heap.size := by have := hb.out.size; have := HB.out; omega
    have hn : n ≤ k := by
      have h1 := bfold_len ((tk.drop m).take k) (u, [])
      rw [← hf.out] at h1
      have h2 := hown.out.1
      simp only [List.length_nil, List.length_take, List.length_drop] at h1
      omega
    by_cases hlt : k < tk.length - m
    · obtain ⟨x, hx⟩ := get_some (tk.drop m) k (by rw [List.length_drop]; exact hlt)
      have hxi := HI.out x (List.mem_of_mem_drop (List.mem_of_getElem? hx))
      have HF := Lib.hid (bfold_take (tk.drop m) k x (u, []) hx)
      obtain ⟨b, off, hAe, hbz, d0⟩ := (by have h := (hS.out.row.rd).dropAd m c (by omega); rw [HAd.out] at h; exact h : RdI wr wr.heap.size Ad (tk.drop m)) k x hx
      subst hAe
      have L1 := hS.out.hu.lookup mty hxi
      have c1 := hS.out.c1
      have hkl : (k : Int) < ((tk.length - m : Nat) : Int) := by omega
      clear hx
      cases hux : u' x with
      | false =>
        rw [hux] at L1
        have HF2 : Hid ((u', out) = ((tk.drop m).take (k+1)).foldl bstep (u, [])) := Lib.hid (by rw [HF.out, ← hf.out, bstep, if_neg (by simp only; rw [hux]; decide)])
        go_wp2_with fail
        go_roundw
        case rel => exact ⟨k+1, n, A', c', u', out, by omega, by go_num, rfl, HF2, hown, hS, hb, hK⟩
        case measure => simp [intOf]; omega
      | true =>
        rw [hux] at L1
        have HF2 : Hid ((upd u' x false, out ++ [x]) = ((tk.drop m).take (k+1)).foldl bstep (u, [])) := Lib.hid (by rw [HF.out, ← hf.out, bstep, if_pos (by simp only; exact hux)])
        obtain ⟨w2, hrun2, hu2, hg2⟩ := hS.out.hu.drop mty hxi 0
        have hs2 : Sp w2 sb bu bw res (upd u' x false) wt A c tk N := hS.out.turned (.inl rfl) hg2 hu2 (hS.out.hw.kept hg2 (by intro hh; injection hh with hh; omega))
        have hsw := hg2.size
        have HB2 : Hid (Below bu w w2) := Lib.hid (hb.out.grown hg2 (by have := HB.out; omega) (fun k hk => by injection hk with hk; omega))
        have HK2 : Hid (Kp w w2 sb A A) := Lib.hid (hK.out.trans (Kp.grown A hg2 (by omega)) (by have := HB.out; omega))
        have HO2 : Hid (OwnI w2 BB A' n c' out) := Lib.hid (hown.out.keptBy hg2 (by have := HB.out; omega))
        have HS2 := Lib.hid hs2
        clear hs2 hu2 hg2 hown hS hb hK hf HF
        go_wp2_with (at_builtin; refine wpList_append_own _ rfl _ _ 30 rfl BB 3 i0 _ 1 8 Try.underlying30 hi hz0 hz1 hz2 rfl (by decide) _ _ _ rfl (HO2.out.alloc _).2 ⟨w2.heap.size, 0, none⟩ 1 1 (icells [x]) rfl rfl (newi_one _ x _ rfl) (icells_one _) (by unfold maxLen; omega) (by omega) (by simp; omega) ?_)
        intro v' w3 hown' hgrow _
        obtain ⟨⟨A3, c3', hv, hown3⟩, _, hb3, _, _⟩ := appI_step (w := w2) HO2.out (Below.refl _ _) (by omega) ((Below.refl _ _).alloc (Nat.le_refl _) _) (m := 1) (K := [x]) rfl hown' hgrow
        have hbw : Below BB w2 w3 := hb3
        have HS3 : Hid (Sp w3 sb bu bw res (upd u' x false) wt A c tk N) := Lib.hid (HS2.out.stays hb3.size (fun g hg hSB => by
          rcases hSB with hSB | hSB
          · exact hb3.block g (by have := HB.out; omega)
          · exact hb3.block g (by
              have := (row_in HH.out.row hSB).2
              have := HB.out; omega)))
        have HB3 : Hid (Below bu w w3) := Lib.hid (HB2.out.trans (hb3.mono (by have := HB.out; omega)))
        have HK3 : Hid (Kp w w3 sb A A) := Lib.hid (fun g h1 h2 h3 => by
          obtain ⟨q1, q2⟩ := HK2.out g h1 h2 h3
          exact ⟨(hbw.block g (by have := HB.out; omega)).trans q1, q2⟩)
        have HO3 := Lib.hid hown3
        rw [hv]
        clear hown' hgrow hv hown3 hb3 hbw
        go_wp2_with fail
        go_roundw
        case rel => exact ⟨k+1, _, A3, c3', _, _, by omega, by go_num, rfl, HF2, HO3, HS3, HB3, HK3⟩
        case measure => simp [intOf]; omega
    · obtain rfl : k = tk.length - m := by omega
      have e5 : (tk.drop m).take (tk.length - m) = tk.drop m := by rw [List.take_of_length_le (by simp)]
      rw [e5] at hf
      have hlen : (tk.take m).length = m := by simp; omega
      have g3 := hS.out.c3
      have z3 := hS.out.f3
      have hrow' : OwnI wr (sb+1) A (tk.take m).length c (tk.take m) := by rw [hlen]; exact hS.out.row.shrink m hm
      have hs6 := hS.out.setTk hrow'
      rw [hlen] at hs6
      have e6 : (m : Int) ≤ (c : Int) := by omega
      have HS6 := Lib.hid hs6
      have hsb : sb < BB := by have := HB.out; omega
      have HO6 : Hid (OwnI (wr.setCell ⟨sb, 3, none⟩ (.slice A m c)) BB A' n c' out) := Lib.hid (hown.out.same (fun b hb => Below.heap_setCell wr ⟨sb, 3, none⟩ _ b (fun e => by have := (row_in hown.out hb).1; simp only at e; omega)))
      have HB6 : Hid (Below bu w (wr.setCell ⟨sb, 3, none⟩ (.slice A m c))) := Lib.hid (hb.out.setCell (show bu ≤ sb by omega) _)
      have HK6 : Hid (Kp w (wr.setCell ⟨sb, 3, none⟩ (.slice A m c)) sb A A) := Lib.hid (hK.out.trans (Kp.grown (r := sb) A (grown_setCell wr ⟨sb, 3, none⟩ _) (Nat.le_refl _)) hb.out.size)
      clear hlt hs6 hrow' e5
      go_wp2_with fail
      refine (SortInts_any _ HO6.out (by omega)).mono ?_
      rintro e w8 ⟨rfl, ho8, hg8⟩
      have hs8 := HS6.out.sorted hg8 (fun b hb => ⟨by have := (row_in HO6.out hb).1; omega, fun h9 => by have := (row_in HH.out.row h9).2; have := (row_in HO6.out hb).1; have := HB.out; omega⟩)
      have HS8 := Lib.hid hs8
      have HO8 := Lib.hid ho8
      have hrowb : ∀ b, some b = (Value.slice A' n c').ownBlock → BB ≤ b := fun b e => (row_in HO6.out (by cases A' with
        | none => cases e
        | some a => simp [Value.ownBlock] at e; exact inA_some.2 e.symm)).1
      have HB8 : Hid (Below bu w w8) := Lib.hid (HB6.out.grown hg8 (by have := HB6.out.size; have := HB.out; omega) (fun k hk => by have := hrowb k hk.symm; omega))
      have HK8 : Hid (Kp w w8 sb A A) := Lib.hid (fun g h1 h2 h3 => by
        obtain ⟨q1, q2⟩ := HK6.out g h1 h2 h3
        refine ⟨(hg8.block g (Nat.lt_of_lt_of_le h1 HB6.out.size) (fun e => ?_)).trans q1, q2⟩
        have := hrowb g e
        have := HB.out; omega)
      clear hs8 ho8 hg8
      go_wp2_with fail
      go_ret2
      obtain rfl := HB.out
      exact ⟨u', out, hf.out, A', n, c', rfl, HS8.out, HO8.out, HB8.out, HK8.out⟩
end
end Go.Proofs.Ytobeppeadkoieaa
