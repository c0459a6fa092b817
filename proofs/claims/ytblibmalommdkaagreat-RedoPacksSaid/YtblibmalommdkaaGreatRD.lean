/-
  RD: texts of one kind, one behind the other.
-/
import Derived.Test.YtblibmalommdkaaGreatRC
import Derived.Deep.RegionHeld3
import Derived.Deep.AppendLies
import Derived.Deep.LoopGhost
import Derived.WalkMore
import Derived.Deep.CutBlock
import Derived.Test.YtblibmalommdkaaGreatRB
/-
  What ranges.Both answers: the right list of what each of two lists has.
-/
namespace Go.Proofs.YtblibmalommdkaaGreat
open Go.RowKit
theorem Rd.cons {w : World} {B : Nat} {A : Option Addr} {s : R} {l : List R} (h : Rd w B A (s :: l)) : ∃ b off, A = some ⟨b, off, none⟩ ∧ b < B ∧ w.cell? ⟨b, off, none⟩ = some (.int .i64 s.1) ∧ w.cell? ⟨b, off + 1, none⟩ = some (.int .i64 s.2) := by
  obtain ⟨b, off, e, hb, h0, h1⟩ := h 0 s rfl
  exact ⟨b, off, e, hb, by simpa using h0, by simpa using h1⟩
def lenV : Value → Nat
  | .slice _ n _ => n
  | _ => 0
end Go.Proofs.YtblibmalommdkaaGreat

/-
  What ranges.Less answers: the right list of what one list has and the other has not.
-/
namespace Go.Proofs.YtblibmalommdkaaGreat
open Go.RowKit
theorem drop_cons {α : Type} {l : List α} {k : Nat} {s : α} (h : l[k]? = some s) : l.drop k = s :: l.drop (k+1) := by
  obtain ⟨hk, e⟩ := List.getElem?_eq_some_iff.1 h
  rw [← e, ← List.drop_eq_getElem_cons hk]
theorem skip_step {b : List R} {i : Nat} {s : R} (hs : b[i]? = some s) {f : Int} (h : s.2 ≤ f) : skip f (b.drop (i+1)) = skip f (b.drop i) := by
  rw [drop_cons hs]
  conv => rhs; unfold skip
  rw [if_pos h]
theorem skip_stop {b : List R} {i : Nat} {s : R} (hs : b[i]? = some s) {f : Int} (h : ¬ s.2 ≤ f) : skip f (b.drop i) = b.drop i := by
  rw [drop_cons hs]
  unfold skip
  rw [if_neg h]
theorem cut_cons (f t : Int) (s : R) (b : List R) (h : s.1 < t) : cut f t (s :: b) = (if f < s.1 then [(f, s.1)] else []) ++ (if t ≤ s.2 then [] else cut s.2 t b) := by
  rw [cut, if_pos h]
theorem cut_far (f t : Int) (s : R) (b : List R) (h : ¬ s.1 < t) : cut f t (s :: b) = [(f, t)] := by
  rw [cut, if_neg h]
theorem Own.setNe {w : World} {base : Nat} {A : Option Addr} {n cap : Nat} {l : List R} (h : Own w base A n cap l) (a : Addr) (v : Value) (ha : (Value.slice A n cap).ownBlock ≠ some a.block) : Own (w.setCell a v) base A n cap l :=
  ⟨h.1, h.2.kept (grown_setCell w a v) (.inr ha)⟩
end Go.Proofs.YtblibmalommdkaaGreat

/-
  What the reference's put answers.
-/
namespace Go.Proofs.YtblibmalommdkaaGreat
open Go.RowKit
theorem putL_neg {l : List Int} {x : Int} (h : x < 0) : putL l x = l := by unfold putL; rw [if_pos h]
theorem putL_in {l : List Int} {x : Int} (h : x ∈ l) : putL l x = l := by
  unfold putL
  simp [h]
theorem putL_new {l : List Int} {x : Int} (h0 : ¬ x < 0) (h : x ∉ l) : putL l x = ins x l := by
  unfold putL; rw [if_neg h0, if_neg h]
theorem nin_step {l : List Int} {k : Nat} {x y : Int} (hy : l[k]? = some y) (h : x ∉ l.take k) (hne : ¬ y = x) : x ∉ l.take (k+1) := by
  rw [take_snoc l k y hy]
  intro hh
  rcases List.mem_append.1 hh with hh | hh
  · exact h hh
  · simp at hh; exact hne hh.symm
/-- A slice that reads as numbers, its length and its room told. -/
def RdN (w : World) (A : Option Addr) (n c : Nat) (l : List Int) : Prop := l.length = n ∧ RdI w w.heap.size A l ∧ 0 ≤ c
set_option maxRecDepth 100000 in
set_option maxHeartbeats 800000 in
theorem put_any (A : Option Addr) (len cap : Nat) (x : Int) (w : World) (l : List Int) (hlen : l.length = len) (hr : RdI w w.heap.size A l) (hm : len ≤ 10000000) :
    Calls Tryz.prog 109 #[.slice A len cap, .int .i64 x] w fun e w' => (∃ A' n c, e = .returned (.slice A' n c) ∧ RdN w' A' n c (putL l x)) ∧ Below w.heap.size w w' := by
  obtain ⟨i0, hi, hz0, hz1, hz2⟩ := info_parts info3
  have H := Lib.hid hlen; have HR := Lib.hid hr
  clear hlen hr
  by_cases hx : x < 0
  · have HP : Hid (putL l x = l) := Lib.hid (putL_neg hx)
    go_enter Tryz.func109, Tryz.ntmps109
    go_wp2_with fail
    go_ret
    exact ⟨⟨_, _, _, rfl, by rw [HP.out]; exact ⟨H.out, HR.out, Nat.zero_le _⟩⟩, Below.refl _ _⟩
  go_enter Tryz.func109, Tryz.ntmps109
  go_wp2_with fail
  generalize hBB : w.heap.size = BB at *
  have HB := Lib.hid hBB; clear hBB
  go_loopw [5, 6, 7] (fun vo vd vi wr => ∃ (k : Nat) (d : Bool) (m : Nat) (B : Option Addr) (c : Nat) (o : List Int), k ≤ len ∧ m ≤ 2 * k ∧ vi = .int .i64 k ∧ vd = .bool d ∧ vo = .slice B m c ∧ Hid (OwnI wr BB B m c o) ∧ Hid (x ∉ l.take k) ∧ Hid (o ++ (if d then l.drop k else ins x (l.drop k)) = ins x l) ∧ Below BB w wr) (fun _ _ i _ => len - (intOf i).toNat)
  case atStart => exact ⟨0, false, 0, _, _, [], Nat.zero_le _, by omega, rfl, rfl, rfl, Lib.hid (OwnI.nil _ _), Lib.hid (by simp), Lib.hid (by simp), Below.refl _ _⟩
  case round =>
    obtain ⟨k, d, m, B, c, o, hk, hmk, rfl, rfl, rfl, RO, RN, RE, hbl⟩ := hrel
    have hsz : BB ≤ wr.heap.size := by have := hbl.size; have := HB.out; omega
    by_cases hlt : k < len
    · obtain ⟨y, hy⟩ := get_some l k (by have := H.out; omega)
      obtain ⟨b2, off2, rfl, hb2, c0⟩ := HR.out.below hbl (Nat.le_refl _) k y hy
      have HBel := Lib.hid hbl
      by_cases hxy : y = x
      · have HP : Hid (putL l x = l) := Lib.hid (putL_in (by rw [← hxy]; exact List.mem_of_getElem? hy))
        have f1 : (y == x) = true := by simpa using hxy
        clear hy hbl hxy
        go_wp2_with fail
        go_ret
        exact ⟨⟨_, _, _, rfl, by rw [HP.out]; exact ⟨H.out, (HR.out.below HBel.out (Nat.le_refl _)).more hsz, Nat.zero_le _⟩⟩, by obtain rfl := HB.out; exact HBel.out⟩
      · have RN2 := Lib.hid (nin_step hy RN.out hxy)
        have hd := drop_cons hy
        have f1 : (y == x) = false := by simpa using hxy
        cases d with
        | true =>
          have RE2 : Hid (o ++ [y] ++ (if true = true then l.drop (k+1) else ins x (l.drop (k+1))) = ins x l) := Lib.hid (by have := RE.out; rw [hd] at this; simpa using this)
          clear hy hbl hd hxy
          by_cases hgt : x < y
          · go_wp2_with (at_builtin; refine wpList_append_own _ rfl (.tmp 38) (.tmp 43) 109 rfl BB 3 i0 _ 1 8 Tryz.underlying109 hi hz0 hz1 hz2 rfl (by decide) _ _ _ rfl (RO.out.alloc _).2 ⟨wr.heap.size, 0, none⟩ 1 1 (icells [y]) rfl rfl (newi_one _ _ _ rfl) (icells_one _) (by unfold maxLen; omega) (by omega) (by simp; omega) ?_)
            intro v' w1 hown' hgrow _
            obtain ⟨⟨A'', c'', hv, hown2⟩, hb3, _, _, _⟩ := appI_step RO.out HBel.out hsz ((Below.refl _ _).alloc (Nat.le_refl _) _) (m := 1) (K := [y]) rfl hown' hgrow
            have HO2 := Lib.hid hown2
            rw [hv]
            clear hgrow hown' hv hown2
            go_wp2_with fail
            go_roundw
            case rel => exact ⟨k+1, true, m+1, A'', c'', _, by omega, by omega, by go_num, rfl, rfl, HO2, RN2, RE2, hb3⟩
            case measure => simp [intOf]; omega
          · go_wp2_with (at_builtin; refine wpList_append_own _ rfl (.tmp 38) (.tmp 43) 109 rfl BB 3 i0 _ 1 8 Tryz.underlying109 hi hz0 hz1 hz2 rfl (by decide) _ _ _ rfl (RO.out.alloc _).2 ⟨wr.heap.size, 0, none⟩ 1 1 (icells [y]) rfl rfl (newi_one _ _ _ rfl) (icells_one _) (by unfold maxLen; omega) (by omega) (by simp; omega) ?_)
            intro v' w1 hown' hgrow _
            obtain ⟨⟨A'', c'', hv, hown2⟩, hb3, _, _, _⟩ := appI_step RO.out HBel.out hsz ((Below.refl _ _).alloc (Nat.le_refl _) _) (m := 1) (K := [y]) rfl hown' hgrow
            have HO2 := Lib.hid hown2
            rw [hv]
            clear hgrow hown' hv hown2
            go_wp2_with fail
            go_roundw
            case rel => exact ⟨k+1, true, m+1, A'', c'', _, by omega, by omega, by go_num, rfl, rfl, HO2, RN2, RE2, hb3⟩
            case measure => simp [intOf]; omega
        | false =>
          by_cases hgt : x < y
          · have RE2 : Hid (o ++ [x] ++ [y] ++ (if true = true then l.drop (k+1) else ins x (l.drop (k+1))) = ins x l) := Lib.hid (by have := RE.out; rw [hd] at this; simpa [ins, hgt] using this)
            clear hy hbl hd hxy
            go_wp2_with (at_builtin; refine wpList_append_own _ rfl (.tmp 34) (.tmp 36) 109 rfl BB 3 i0 _ 1 8 Tryz.underlying109 hi hz0 hz1 hz2 rfl (by decide) _ _ _ rfl (RO.out.alloc _).2 ⟨wr.heap.size, 0, none⟩ 1 1 (icells [x]) rfl rfl (newi_one _ _ _ rfl) (icells_one _) (by unfold maxLen; omega) (by omega) (by simp; omega) ?_)
            intro v' w1 hown' hgrow _
            obtain ⟨⟨A'', c'', hv, hown2⟩, hb3, _, _, _⟩ := appI_step RO.out HBel.out hsz ((Below.refl _ _).alloc (Nat.le_refl _) _) (m := 1) (K := [x]) rfl hown' hgrow
            have HO2 := Lib.hid hown2; have HB2 := Lib.hid hb3
            have hsz2 : BB ≤ w1.heap.size := by have := hb3.size; have := HB.out; omega
            have c1 := (hb3.cell (p := ⟨b2, off2 + k, none⟩) hb2).trans ((HBel.out.cell (p := ⟨b2, off2 + k, none⟩) hb2).symm.trans c0)
            rw [hv]
            clear hgrow hown' hv hown2 hb3
            go_wp2_with (at_builtin; refine wpList_append_own _ rfl (.tmp 38) (.tmp 43) 109 rfl BB 3 i0 _ 1 8 Tryz.underlying109 hi hz0 hz1 hz2 rfl (by decide) _ _ _ rfl (HO2.out.alloc _).2 ⟨w1.heap.size, 0, none⟩ 1 1 (icells [y]) rfl rfl (newi_one _ _ _ rfl) (icells_one _) (by unfold maxLen; omega) (by omega) (by simp; omega) ?_)
            intro v' w3 hown' hgrow _
            obtain ⟨⟨A3, c3, hv, hown2⟩, hb3, _, _, _⟩ := appI_step HO2.out HB2.out hsz2 ((Below.refl _ _).alloc (Nat.le_refl _) _) (m := 1) (K := [y]) rfl hown' hgrow
            have HO3 := Lib.hid hown2
            rw [hv]
            clear hgrow hown' hv hown2
            go_wp2_with fail
            go_roundw
            case rel => exact ⟨k+1, true, m+1+1, A3, c3, _, by omega, by omega, by go_num, rfl, rfl, HO3, RN2, RE2, hb3⟩
            case measure => simp [intOf]; omega
          · have RE2 : Hid (o ++ [y] ++ (if false = true then l.drop (k+1) else ins x (l.drop (k+1))) = ins x l) := Lib.hid (by have := RE.out; rw [hd] at this; simpa [ins, hgt] using this)
            clear hy hbl hd hxy
            go_wp2_with (at_builtin; refine wpList_append_own _ rfl (.tmp 38) (.tmp 43) 109 rfl BB 3 i0 _ 1 8 Tryz.underlying109 hi hz0 hz1 hz2 rfl (by decide) _ _ _ rfl (RO.out.alloc _).2 ⟨wr.heap.size, 0, none⟩ 1 1 (icells [y]) rfl rfl (newi_one _ _ _ rfl) (icells_one _) (by unfold maxLen; omega) (by omega) (by simp; omega) ?_)
            intro v' w1 hown' hgrow _
            obtain ⟨⟨A'', c'', hv, hown2⟩, hb3, _, _, _⟩ := appI_step RO.out HBel.out hsz ((Below.refl _ _).alloc (Nat.le_refl _) _) (m := 1) (K := [y]) rfl hown' hgrow
            have HO2 := Lib.hid hown2
            rw [hv]
            clear hgrow hown' hv hown2
            go_wp2_with fail
            go_roundw
            case rel => exact ⟨k+1, false, m+1, A'', c'', _, by omega, by omega, by go_num, rfl, rfl, HO2, RN2, RE2, hb3⟩
            case measure => simp [intOf]; omega
    · obtain rfl : k = len := by omega
      have hP : putL l x = ins x l := putL_new (by omega) (by have := RN.out; rwa [List.take_of_length_le (Nat.le_of_eq H.out)] at this)
      have hD : l.drop k = [] := List.drop_of_length_le (Nat.le_of_eq H.out)
      have HBel := Lib.hid hbl
      cases d with
      | true =>
        have HP : Hid (putL l x = o) := Lib.hid (by have := RE.out; rw [hD] at this; rw [hP]; simpa using this.symm)
        clear hP hD hbl hlt
        go_wp2_with fail
        go_ret
        obtain rfl := HB.out
        exact ⟨⟨_, _, _, rfl, by rw [HP.out]; exact ⟨RO.out.1, RO.out.rd, Nat.zero_le _⟩⟩, HBel.out⟩
      | false =>
        have HP : Hid (putL l x = o ++ [x]) := Lib.hid (by have := RE.out; rw [hD] at this; rw [hP]; simpa [ins] using this.symm)
        clear hP hD hbl hlt
        go_wp2_with (at_builtin; refine wpList_append_own _ rfl (.tmp 47) (.tmp 49) 109 rfl BB 3 i0 _ 1 8 Tryz.underlying109 hi hz0 hz1 hz2 rfl (by decide) _ _ _ rfl (RO.out.alloc _).2 ⟨wr.heap.size, 0, none⟩ 1 1 (icells [x]) rfl rfl (newi_one _ _ _ rfl) (icells_one _) (by unfold maxLen; omega) (by omega) (by simp; omega) ?_)
        intro v' w1 hown' hgrow _
        obtain ⟨⟨A'', c'', hv, hown2⟩, hb3, _, _, _⟩ := appI_step RO.out HBel.out hsz ((Below.refl _ _).alloc (Nat.le_refl _) _) (m := 1) (K := [x]) rfl hown' hgrow
        have HO2 := Lib.hid hown2; have HB2 := Lib.hid hb3
        rw [hv]
        clear hgrow hown' hv hown2 hb3
        go_wp2_with fail
        go_ret
        obtain rfl := HB.out
        exact ⟨⟨_, _, _, rfl, by rw [HP.out]; exact ⟨HO2.out.1, HO2.out.rd, Nat.zero_le _⟩⟩, HB2.out⟩
end Go.Proofs.YtblibmalommdkaaGreat

/-
  What the reference's marks answers.
-/
namespace Go.Proofs.YtblibmalommdkaaGreat
open Go.RowKit
theorem newi_rd (w : World) (v : Int) (g : Nat) (hg : g = w.heap.size) : RdI (w.alloc (.cells #[.int .i64 v] 3)) (w.alloc (.cells #[.int .i64 v] 3)).heap.size (some ⟨g, 0, none⟩) [v] := by
  subst hg
  intro k x hx
  cases k with
  | zero =>
    have : v = x := by simpa using hx
    subst this
    exact ⟨w.heap.size, 0, rfl, by simp, cell_new _ _ _ 0⟩
  | succ k => simp at hx
set_option maxRecDepth 100000 in
set_option maxHeartbeats 1600000 in
theorem marks_any (A : Option Addr) (cap : Nat) (w : World) (ls : List (List R)) (hr : RdL w w.heap.size A ls) (hlen : ls.length = 2) (hm : ∀ l ∈ ls, l.length ≤ 100000) :
    Calls Tryz.prog 88 #[.slice A 2 cap] w fun e w' => (∃ A' n c, e = .returned (.slice A' n c) ∧ RdN w' A' n c (ls.foldl ends [0])) ∧ Below w.heap.size w w' := by
  have H := Lib.hid hlen; have HR := Lib.hid hr; have HM := Lib.hid hm
  clear hlen hr hm
  go_enter Tryz.func88, Tryz.ntmps88
  go_wp2_with fail
  go_loopw [3, 10] (fun vo vi wr => ∃ (k : Nat) (B : Option Addr) (n c : Nat), k ≤ 2 ∧ n ≤ 1 + 200000 * k ∧ vi = .int .i64 k ∧ vo = .slice B n c ∧ Hid (RdN wr B n c ((ls.take k).foldl ends [0])) ∧ Below w.heap.size w wr) (fun _ i _ => 2 - (intOf i).toNat)
  case atStart => exact ⟨0, _, 1, 1, Nat.zero_le _, by omega, rfl, rfl, Lib.hid ⟨rfl, newi_rd _ _ _ rfl, Nat.zero_le _⟩, (Below.refl _ _).alloc (Nat.le_refl _) _⟩
  case round =>
    obtain ⟨k, B, n, c, hk, hnk, rfl, rfl, RO, hbl⟩ := hrel
    have HBel := Lib.hid hbl
    by_cases hlt : k < 2
    · obtain ⟨l, hl⟩ := get_some ls k (by have := H.out; omega)
      obtain ⟨b, off, Ak, ck, rfl, hb', h0, hrd⟩ := HR.out.below hbl (Nat.le_refl _) k l hl
      have HF : Hid ((ls.take (k+1)).foldl ends [0] = ends ((ls.take k).foldl ends [0]) l) := Lib.hid (by rw [take_snoc ls k l hl, List.foldl_append]; rfl)
      have hll := HM.out l (List.mem_of_getElem? hl)
      have HRd : Hid (Rd w w.heap.size Ak l) := Lib.hid (hrd.keep fun p hp => (hbl.cell hp).symm)
      clear hrd hl hbl
      generalize (ls.take k).foldl ends [0] = o0 at *
      have hk2 : (k : Int) < 2 := by omega
      go_wp2_with fail
      go_loopw [3, 6] (fun vo vi wr => ∃ (j : Nat) (B : Option Addr) (n c : Nat), j ≤ l.length ∧ n ≤ 1 + 200000 * k + 2 * j ∧ vi = .int .i64 j ∧ vo = .slice B n c ∧ Hid (RdN wr B n c (ends o0 (l.take j))) ∧ Below w.heap.size w wr) (fun _ i _ => l.length - (intOf i).toNat)
      case atStart => exact ⟨0, B, n, c, Nat.zero_le _, by omega, rfl, rfl, RO, HBel.out⟩
      case round =>
        obtain ⟨j, B, n, c, hj, hnj, rfl, rfl, RO, hbl⟩ := hrel
        have HBel := Lib.hid hbl
        by_cases hlt2 : j < l.length
        · obtain ⟨s, hs⟩ := get_some l j hlt2
          obtain ⟨b2, off2, rfl, hb2, c0, c1⟩ := HRd.out.below hbl (Nat.le_refl _) j s hs
          have HE : Hid (ends o0 (l.take (j+1)) = putL (putL (ends o0 (l.take j)) s.1) s.2) := Lib.hid (by rw [take_snoc l j s hs, ends_snoc])
          have hsz := hbl.size
          have hb3 : b2 < wr.heap.size := by omega
          clear hs hbl
          have hl1 : n + 1 ≤ 10000000 := by omega
          go_wp2_with fail
          have j0 : (0 : Int) ≤ (j : Int) := Int.natCast_nonneg _
          have j1 : (j : Int) < (l.length : Int) := by omega
          go_region_held3 (fun w' => w'.cell? ⟨b2, off2 + j * 2, none⟩ = some (.int .i64 s.1) ∧ w'.cell? ⟨b2, off2 + j * 2 + 1, none⟩ = some (.int .i64 s.2))
            (first
              | go_keep
              | (exact ⟨(hp2.cell (p := ⟨b2, off2 + j * 2, none⟩) (Nat.lt_of_lt_of_le hb3 hp1.size)).trans ((hp1.cell (p := ⟨b2, off2 + j * 2, none⟩) hb3).trans c0), (hp2.cell (p := ⟨b2, off2 + j * 2 + 1, none⟩) (Nat.lt_of_lt_of_le hb3 hp1.size)).trans ((hp1.cell (p := ⟨b2, off2 + j * 2 + 1, none⟩) hb3).trans c1)⟩)
              | (exact ⟨(hp1.cell (p := ⟨b2, off2 + j * 2, none⟩) hb3).trans c0, (hp1.cell (p := ⟨b2, off2 + j * 2 + 1, none⟩) hb3).trans c1⟩))
            (first
              | (go_at_call_of 109 (Value.slice B n c); refine (put_any B n c s.1 wr.drew (ends o0 (l.take j)) RO.out.1 (RO.out.2.1.drewN 1) (by omega)).mono ?_; rintro e wp1 ⟨⟨A1, n1, c1', rfl, hr1⟩, hp1⟩)
              | (go_at_call 109; refine (put_any A1 n1 c1' s.2 _ (putL (ends o0 (l.take j)) s.1) hr1.1 hr1.2.1 (by have := putL_len (ends o0 (l.take j)) s.1; have := hr1.1; have := RO.out.1; omega)).mono ?_; rintro e wp2 ⟨⟨A2, n2, c2', rfl, hr2⟩, hp2⟩))
          have HR2 := Lib.hid hr2
          have HB2 : Hid (Below w.heap.size w wp2) := Lib.hid (((belowDrewN HBel.out 1).trans (hp1.mono hsz)).trans (hp2.mono (Nat.le_trans hsz hp1.size)))
          have hn2 : n2 ≤ n + 2 := by
            have a1 := putL_len (ends o0 (l.take j)) s.1
            have a2 := putL_len (putL (ends o0 (l.take j)) s.1) s.2
            have a3 := hr2.1
            have a4 := RO.out.1
            omega
          clear hr1 hr2 hp1 hp2
          go_wp2_with fail
          go_roundw
          case rel => exact ⟨j+1, A2, n2, c2', by omega, by omega, by go_num, rfl, by rw [HE.out]; exact HR2, HB2.out⟩
          case measure => simp [intOf]; omega
        · obtain rfl : j = l.length := by omega
          have HG : Hid (RdN wr B n c ((ls.take (k+1)).foldl ends [0])) := Lib.hid (by rw [HF.out]; have := RO.out; rwa [List.take_length] at this)
          clear hbl
          go_wp2_with fail
          go_roundw
          case rel => exact ⟨k+1, B, n, c, by omega, by omega, by go_num, rfl, HG, HBel.out⟩
          case measure => simp [intOf]; omega
    · obtain rfl : k = 2 := by omega
      have HG : Hid (RdN wr B n c (ls.foldl ends [0])) := Lib.hid (by have := RO.out; rwa [List.take_of_length_le (by have := H.out; omega)] at this)
      clear hbl
      go_wp2_with fail
      go_ret
      exact ⟨⟨_, _, _, rfl, HG.out⟩, HBel.out⟩
end Go.Proofs.YtblibmalommdkaaGreat

/-
  What the reference's Mix answers, and Right.
-/
namespace Go.Proofs.YtblibmalommdkaaGreat
open Go.RowKit
def cW (way : Int) (x y : Bool) : Bool := if way = 0 then x || y else if way = 1 then x && y else x && !y
noncomputable def keepB (way : Int) (l m : List R) (u : Int) : Bool := cW way (hasB l u) (hasB m u)
theorem keepB_iff (way : Int) (hw : way = 0 ∨ way = 1 ∨ way = 2) (l m : List R) (u : Int) (h0 : 0 ≤ u) : keepB way l m u = true ↔ mixW way l m u := by
  have e : ∀ l, hasB l u = true ↔ In l u := fun l => hasB_iff.trans ⟨fun h => h.2, fun h => ⟨h0, h⟩⟩
  have e' : ∀ l, hasB l u = false ↔ ¬ In l u := fun l => by rw [← Bool.not_eq_true, e]
  unfold keepB cW mixW
  rcases hw with rfl | rfl | rfl
  · simp [e]
  · simp [e]
  · simp [e, e']
noncomputable def mixR (way : Int) (l m : List R) : List R := mixL (keepB way l m) l m
theorem mixR_is (way : Int) (hw : way = 0 ∨ way = 1 ∨ way = 2) (l m : List R) : Is (mixR way l m) (fun x => 0 ≤ x ∧ mixW way l m x) := mixL_is way l m _ (keepB_iff way hw l m)
theorem mix_either (l m : List R) : mixR 0 l m = eitherR l m := (mixR_is 0 (.inl rfl) l m).uniq (eitherR_is l m) fun x => by unfold mixW; simp
theorem mix_both (l m : List R) : mixR 1 l m = bothR l m := (mixR_is 1 (.inr (.inl rfl)) l m).uniq (bothR_is l m) fun x => by unfold mixW; simp
theorem mix_less (l m : List R) : mixR 2 l m = lessR l m := (mixR_is 2 (.inr (.inr rfl)) l m).uniq (lessR_is l m) fun x => by unfold mixW; simp
theorem mix_nl (l : List R) : mixR 0 l [] = nl l := (mixR_is 0 (.inl rfl) l []).uniq (nl_is l) fun x => by
  unfold mixW
  simp only [true_and]
  have := in_nil x
  simp [this]
theorem sel_last {c : Int → Bool} {M : List Int} {i : Nat} (h : M.length ≤ i + 1) : selL c (M.drop i) = [] := by
  have : (M.drop i).length ≤ 1 := by rw [List.length_drop]; omega
  match M.drop i, this with
  | [], _ => rfl
  | [u], _ => rfl
  | u :: v :: r, h => simp at h
theorem sel_next {c : Int → Bool} {M : List Int} {i : Nat} {u v : Int} (hu : M[i]? = some u) (hv : M[i+1]? = some v) : selL c (M.drop i) = (if c u then [(u, v)] else []) ++ selL c (M.drop (i+1)) := by
  rw [drop_cons hu, drop_cons hv, selL_cons]
theorem rise_next {M : List Int} (h : Rise M) {i : Nat} {u v : Int} (hu : M[i]? = some u) (hv : M[i+1]? = some v) : u < v := by
  obtain ⟨h1, rfl⟩ := List.getElem?_eq_some_iff.1 hu
  obtain ⟨h2, rfl⟩ := List.getElem?_eq_some_iff.1 hv
  exact (List.pairwise_iff_getElem.1 h) i (i+1) h1 h2 (by omega)
theorem new_pair (w : World) (A : Option Addr) (n c : Nat) (A2 : Option Addr) (n2 c2 : Nat) (l m : List R) (hl : l.length = n) (hm : m.length = n2) (hr : Rd w w.heap.size A l) (hr2 : Rd w w.heap.size A2 m) (g : Nat) (hg : g = w.heap.size) :
    RdL (w.alloc (.cells #[.slice A n c, .slice A2 n2 c2] 27)) (w.alloc (.cells #[.slice A n c, .slice A2 n2 c2] 27)).heap.size (some ⟨g, 0, none⟩) [l, m] := by
  subst hg
  have hb := (Below.refl w.heap.size w).alloc (Nat.le_refl _) (.cells #[.slice A n c, .slice A2 n2 c2] 27)
  intro k x hx
  match k with
  | 0 =>
    obtain rfl : l = x := by simpa using hx
    exact ⟨w.heap.size, 0, A, c, rfl, by simp, by rw [hl]; exact cell_new _ _ _ 0, hr.up hb⟩
  | 1 =>
    obtain rfl : m = x := by simpa using hx
    exact ⟨w.heap.size, 0, A2, c2, rfl, by simp, by rw [hm]; exact cell_new _ _ _ 1, hr2.up hb⟩
  | k+2 => simp at hx
theorem two_all {l m : List R} {len len2 : Nat} (h : l.length = len) (h2 : m.length = len2) (hm : len ≤ 100000) (hm2 : len2 ≤ 100000) : ∀ x ∈ [l, m], x.length ≤ 100000 := by
  intro x hx
  simp only [List.mem_cons, List.not_mem_nil, or_false] at hx
  rcases hx with rfl | rfl
  · omega
  · omega
set_option maxHeartbeats 4000000 in
set_option maxRecDepth 100000 in
theorem Mix_any (A : Option Addr) (len cap : Nat) (A2 : Option Addr) (len2 cap2 : Nat) (way : Int) (hw : way = 0 ∨ way = 1 ∨ way = 2) (w : World) (l m : List R) (hlen : l.length = len) (hr : Rd w w.heap.size A l) (hI : IR l)
    (hlen2 : m.length = len2) (hr2 : Rd w w.heap.size A2 m) (hI2 : IR m) (hm : len ≤ 100000) (hm2 : len2 ≤ 100000) :
    Calls Tryz.prog 80 #[.slice A len cap, .slice A2 len2 cap2, .int .i64 way] w fun e w' => (∃ A' n c, e = .returned (.slice A' n c) ∧ Own w' w.heap.size A' n c (mixR way l m)) ∧ Below w.heap.size w w' := by
  obtain ⟨i0, hi, hz0, hz1, hz2⟩ := info_parts info29
  have H := Lib.hid hlen; have HR := Lib.hid hr; have HI := Lib.hid hI
  have H2 := Lib.hid hlen2; have HR2 := Lib.hid hr2; have HI2 := Lib.hid hI2
  have HW := Lib.hid hw
  clear hlen hr hI hlen2 hr2 hI2 hw
  go_enter Tryz.func80, Tryz.ntmps80
  go_wp2_with fail
  refine (marks_any _ 2 _ [l, m] (new_pair w A len cap A2 len2 cap2 l m H.out H2.out HR.out HR2.out _ rfl) rfl (two_all H.out H2.out hm hm2)).mono ?_
  rintro e w2 ⟨⟨AM, n, c, rfl, hM⟩, hb⟩
  have HB6 : Hid (Below w.heap.size w w2) := Lib.hid (((Below.refl _ _).alloc (Nat.le_refl _) _).trans (hb.mono (by simp)))
  have hmk := marksL_mk l m
  have hn := marksL_len l m
  have hM' : RdN w2 AM n c (marksL l m) := hM
  have hnl : n ≤ 1000000 := by have := hM'.1; have := H.out; have := H2.out; omega
  have HM := Lib.hid hM'
  have HK := Lib.hid hmk
  clear hM hM' hb hmk hn
  generalize hBB : w2.heap.size = BB at *
  have hsB : w.heap.size ≤ BB := by have := HB6.out.size; omega
  have HB := Lib.hid hBB
  have HRM : Hid (RdI w2 BB AM (marksL l m)) := Lib.hid (by rw [← hBB]; exact HM.out.2.1)
  have HML : Hid ((marksL l m).length = n) := Lib.hid HM.out.1
  have HR5 : Hid (Rd w2 w.heap.size A l) := Lib.hid (HR.out.below HB6.out (Nat.le_refl _))
  have HR6 : Hid (Rd w2 w.heap.size A2 m) := Lib.hid (HR2.out.below HB6.out (Nat.le_refl _))
  clear hBB HM HR HR2
  go_wp2_with fail
  go_loopw [8, 9] (fun vo vi wr => ∃ (i : Nat) (B : Option Addr) (k d : Nat) (o : List R), i ≤ n ∧ k ≤ i ∧ vi = .int .i64 i ∧ vo = .slice B k d ∧ Hid (Own wr BB B k d o) ∧ Hid ((selL (keepB way l m) ((marksL l m).drop i)).foldl mstep o = mixR way l m) ∧
    Hid (∀ s, o.getLast? = some s → ∀ u, (marksL l m)[i]? = some u → s.2 ≤ u) ∧ Below BB w2 wr) (fun _ vi _ => n - (intOf vi).toNat)
  case atStart => exact ⟨0, Option.none, 0, 0, [], Nat.zero_le _, Nat.le_refl _, rfl, rfl, Lib.hid (Own.nil _ _), Lib.hid rfl, Lib.hid (fun s hs => by simp at hs), Below.refl _ _⟩
  case round =>
    obtain ⟨i, B, k, d, o, hi2, hki, rfl, rfl, RO, RE, RL, hbl⟩ := hrel
    have hsz : BB ≤ wr.heap.size := by have := hbl.size; have := HB.out; omega
    have HBel := Lib.hid hbl
    by_cases hlt : i + 1 < n
    · obtain ⟨u, hu⟩ := get_some (marksL l m) i (by have := HML.out; omega)
      obtain ⟨v, hv⟩ := get_some (marksL l m) (i+1) (by have := HML.out; omega)
      obtain ⟨b, off, rfl, hb, c0⟩ := HRM.out.below hbl (Nat.le_refl _) i u hu
      obtain ⟨b2, off2, e2, _, c1⟩ := HRM.out.below hbl (Nat.le_refl _) (i+1) v hv
      cases e2
      have huv := rise_next HK.out.1 hu hv
      have RE1 : Hid ((selL (keepB way l m) ((marksL l m).drop (i+1))).foldl mstep (if keepB way l m u = true then mstep o (u, v) else o) = mixR way l m) := Lib.hid (by
        have := RE.out
        rw [sel_next hu hv] at this
        by_cases hc : keepB way l m u = true
        · rw [if_pos hc] at this ⊢; exact this
        · rw [if_neg hc] at this ⊢; exact this)
      have RLu : Hid (∀ s, o.getLast? = some s → s.2 ≤ u) := Lib.hid (fun s hs => RL.out s hs u hu)
      have HV := Lib.hid hv
      have hb' : b < wr.heap.size := by omega
      have RD1 : Hid (Rd wr wr.heap.size A l) := Lib.hid ((HR5.out.below hbl hsB).more (by omega))
      have RD2 : Hid (Rd wr wr.heap.size A2 m) := Lib.hid ((HR6.out.below hbl hsB).more (by omega))
      have hlti : (i : Int) + 1 < (n : Int) := by omega
      clear hu hv hbl
      go_wp2_with fail
      go_quiet ((first
        | (go_at_call_of 89 (Value.slice A len cap); exact Calls.quiet_of_same ((RefHas_any A len cap u _ l H.out (RD1.out.drewN _) (by omega)).mono fun _ _ h => ⟨h.1, h.2.symm⟩))
        | (go_at_call_of 89 (Value.slice A2 len2 cap2); exact Calls.quiet_of_same ((RefHas_any A2 len2 cap2 u _ m H2.out (RD2.out.drewN _) (by omega)).mono fun _ _ h => ⟨h.1, h.2.symm⟩))))
      have c0' : (wr.drewN nq).cell? ⟨b, off + i, none⟩ = some (.int .i64 u) := c0
      have c1' : (wr.drewN nq).cell? ⟨b, off + (i + 1), none⟩ = some (.int .i64 v) := c1
      have ROq : Hid (Own (wr.drewN nq) BB B k d o) := Lib.hid (RO.out.drewN nq)
      have HBq : Hid (Below BB w2 (wr.drewN nq)) := Lib.hid (belowDrewN HBel.out nq)
      have hszq : BB ≤ (wr.drewN nq).heap.size := hsz
      have hbq : b < (wr.drewN nq).heap.size := hb'
      have hkb : keepB way l m u = cW way (hasB l u) (hasB m u) := rfl
      rw [hkb] at RE1
      clear c0 c1 RO HBel hsz hb' RD1 RD2 hkb RE RL
      generalize wr.drewN nq = wq at *
      generalize hasB l u = X at *
      generalize hasB m u = Y at *
      go_upto_region 7 with fail
      go_cut [67] (fun cv wx => cv = .bool (!cW way X Y) ∧ wx = wq)
      case first =>
        rcases HW.out with rfl | rfl | rfl <;> cases X <;> cases Y <;> (go_wp2_with fail; go_meet; exact ⟨rfl, rfl⟩)
      case rest =>
        obtain ⟨rfl, rfl⟩ := hcut
        generalize cW way X Y = Z at *
        cases Z with
        | false =>
          have RE2 : Hid ((selL (keepB way l m) ((marksL l m).drop (i+1))).foldl mstep o = mixR way l m) := Lib.hid (by have := RE1.out; simpa using this)
          have RL2 : Hid (∀ s, o.getLast? = some s → ∀ y, (marksL l m)[i+1]? = some y → s.2 ≤ y) := Lib.hid (fun s hs y hy => by
            have h1 := RLu.out s hs
            have h2 := HV.out
            rw [hy] at h2
            have : y = v := Option.some.inj h2
            omega)
          go_wp2_with fail
          go_roundw
          case rel => exact ⟨i+1, B, k, d, o, by omega, by omega, by go_num, rfl, ROq, RE2, RL2, HBq.out⟩
          case measure => simp [intOf]; omega
        | true =>
          have RE2 : Hid ((selL (keepB way l m) ((marksL l m).drop (i+1))).foldl mstep (mstep o (u, v)) = mixR way l m) := Lib.hid (by have := RE1.out; simpa using this)
          clear RE1
          rcases snoc_cases o with rfl | ⟨L, t, rfl⟩
          · obtain rfl : k = 0 := by simpa using ROq.out.1.symm
            have RE3 : Hid ((selL (keepB way l m) ((marksL l m).drop (i+1))).foldl mstep ([] ++ [(u, v)]) = mixR way l m) := RE2
            have RL3 : Hid (∀ s, ([] ++ [(u, v)]).getLast? = some s → ∀ y, (marksL l m)[i+1]? = some y → s.2 ≤ y) := Lib.hid (fun s hs y hy => by
              have h2 := HV.out
              rw [hy] at h2
              have : y = v := Option.some.inj h2
              have h3 : ([] ++ [(u, v)]).getLast? = some (u, v) := by simp
              rw [h3] at hs
              have h4 := Option.some.inj hs
              rw [← h4]; show v ≤ y; omega)
            go_wp2_with fail
            go_quiet (fail)
            have r0 : (wc.drewN nq).cell? ⟨b, off + i, none⟩ = some (.int .i64 u) := c0'
            have r1 : (wc.drewN nq).cell? ⟨b, off + (i + 1), none⟩ = some (.int .i64 v) := c1'
            have hbx : b < (wc.drewN nq).heap.size := hbq
            have hszx : BB ≤ (wc.drewN nq).heap.size := hszq
            have ROx : Hid (Own (wc.drewN nq) BB B 0 d []) := Lib.hid (ROq.out.drewN _)
            have HBx : Hid (Below BB w2 (wc.drewN nq)) := Lib.hid (belowDrewN HBq.out nq)
            have hn2 : (Value.slice B (0) d).ownBlock ≠ some b := fun h => by have := (ROq.out.2.lt _ h).1; omega
            have i1 : (0 : Int) ≤ (i : Int) := Int.natCast_nonneg _
            have i2 : (i : Int) < (n : Int) := by omega
            have i3 : (0 : Int) ≤ (i : Int) + 1 := by omega
            have i4 : IntKind.i64.wrap ((i : Int) + 1) = (i : Int) + 1 := IntWalk.i64_in _ (by omega)
            clear c0' c1' ROq HBq hszq hbq
            generalize wc.drewN nq = wx0 at *
            go_wp2_with fail
            go_region_held3 (fun w' => w'.cell? ⟨b, off + i, none⟩ = some (.int .i64 u) ∧ w'.cell? ⟨b, off + (i + 1), none⟩ = some (.int .i64 v))
              (first
                | go_keep
                | (go_split_ands
                   refine ⟨?_, ?_⟩
                   · (rw [hgrow.cell_far _ (by simp; omega) (Ne.symm hn2)]; assumption)
                   · (rw [hgrow.cell_far _ (by simp; omega) (Ne.symm hn2)]; assumption)))
              ((refine step_append_lies _ (by rfl) _ _ _ (by rfl) BB 74 i0 _ 2 16 Tryz.underlying27 hi hz0 hz1 hz2 rfl (by omega) (.slice B (0) d) (0) (cells []) (by rfl) ((ROx.out.2.alloc _).drew) ⟨wx0.heap.size, 0, none⟩ 1 1 (cells [(u, v)]) (by rfl) (by rfl) (new_one wx0 (u, v) _ rfl) (cells_one_cell _) (by omega) (by unfold maxLen; omega) (by omega) (by simp; omega) (wx0.heap.size + 1) (by simp) ?_; intro gg c8 w4 hown' hgrow hat hlt9))
            obtain ⟨⟨A8, c8', hv8, hown2⟩, hb3, _, _, _⟩ := appL_step ROx.out HBx.out hszx (belowDrewN ((Below.refl _ _).alloc (Nat.le_refl _) _) 1) (m := 1) (K := [(u, v)]) rfl hown' hgrow
            simp only [Value.slice.injEq, true_and] at hv8
            obtain ⟨rfl, rfl⟩ := hv8
            have HO9 := Lib.hid hown2
            have HB9 := Lib.hid hb3
            clear hown' hgrow hown2 hb3 hat
            go_wp2_with fail
            go_roundw
            case rel => exact ⟨i+1, _, 0+1, c8, [] ++ [(u, v)], by omega, by omega, by go_num, rfl, HO9, RE3, RL3, HB9.out⟩
            case measure => simp [intOf]; omega
          · obtain ⟨q, rfl⟩ : ∃ q, k = q + 1 := ⟨L.length, by simpa using ROq.out.1.symm⟩
            obtain ⟨g, rfl, hg1, hg2, t0, t1, t2⟩ := ROq.out.last
            have htu := RLu.out t (by simp)
            by_cases he : t.2 = u
            · have f1 : (t.2 == u) = true := by simpa using he
              have RE3 : Hid ((selL (keepB way l m) ((marksL l m).drop (i+1))).foldl mstep (L ++ [(t.1, v)]) = mixR way l m) := Lib.hid (by
                have := RE2.out
                rw [mstep_yes L t (u, v) (by show u ≤ t.2; omega)] at this
                have e : max t.2 v = v := by omega
                simp only [e] at this
                exact this)
              have RL3 : Hid (∀ s, (L ++ [(t.1, v)]).getLast? = some s → ∀ y, (marksL l m)[i+1]? = some y → s.2 ≤ y) := Lib.hid (fun s hs y hy => by
                have h2 := HV.out
                rw [hy] at h2
                have : y = v := Option.some.inj h2
                have h3 : (L ++ [(t.1, v)]).getLast? = some (t.1, v) := by simp
                rw [h3] at hs
                have h4 := Option.some.inj hs
                rw [← h4]; show v ≤ y; omega)
              clear he
              go_wp2_with fail
              go_quiet (fail)
              go_wp2_with fail
              go_roundw
              case rel => exact ⟨i+1, some ⟨g, 0, Option.none⟩, q+1, d, _, by omega, by omega, by go_num, rfl, Lib.hid ((ROq.out.drewN nq).setLast v), RE3, RL3, (belowDrewN HBq.out nq).setCell hg1 _⟩
              case measure => simp [intOf]; omega
            · have f1 : (t.2 == u) = false := by simpa using he
              have RE3 : Hid ((selL (keepB way l m) ((marksL l m).drop (i+1))).foldl mstep (L ++ [t] ++ [(u, v)]) = mixR way l m) := Lib.hid (by
                have := RE2.out
                rwa [mstep_no L t (u, v) (by show ¬ u ≤ t.2; omega)] at this)
              have RL3 : Hid (∀ s, (L ++ [t] ++ [(u, v)]).getLast? = some s → ∀ y, (marksL l m)[i+1]? = some y → s.2 ≤ y) := Lib.hid (fun s hs y hy => by
                have h2 := HV.out
                rw [hy] at h2
                have : y = v := Option.some.inj h2
                have h3 : (L ++ [t] ++ [(u, v)]).getLast? = some (u, v) := by simp
                rw [h3] at hs
                have h4 := Option.some.inj hs
                rw [← h4]; show v ≤ y; omega)
              clear he
              go_wp2_with fail
              go_quiet (fail)
              have r0 : (wc.drewN nq).cell? ⟨b, off + i, none⟩ = some (.int .i64 u) := c0'
              have r1 : (wc.drewN nq).cell? ⟨b, off + (i + 1), none⟩ = some (.int .i64 v) := c1'
              have hbx : b < (wc.drewN nq).heap.size := hbq
              have hszx : BB ≤ (wc.drewN nq).heap.size := hszq
              have ROx : Hid (Own (wc.drewN nq) BB (some ⟨g, 0, Option.none⟩) (q+1) d (L ++ [t])) := Lib.hid (ROq.out.drewN _)
              have HBx : Hid (Below BB w2 (wc.drewN nq)) := Lib.hid (belowDrewN HBq.out nq)
              have hn2 : (Value.slice (some ⟨g, 0, Option.none⟩) (q+1) d).ownBlock ≠ some b := fun h => by have := (ROq.out.2.lt _ h).1; omega
              have i1 : (0 : Int) ≤ (i : Int) := Int.natCast_nonneg _
              have i2 : (i : Int) < (n : Int) := by omega
              have i3 : (0 : Int) ≤ (i : Int) + 1 := by omega
              have i4 : IntKind.i64.wrap ((i : Int) + 1) = (i : Int) + 1 := IntWalk.i64_in _ (by omega)
              clear c0' c1' ROq HBq hszq hbq t0 t1 t2
              generalize wc.drewN nq = wx0 at *
              go_wp2_with fail
              go_region_held3 (fun w' => w'.cell? ⟨b, off + i, none⟩ = some (.int .i64 u) ∧ w'.cell? ⟨b, off + (i + 1), none⟩ = some (.int .i64 v))
                (first
                  | go_keep
                  | (go_split_ands
                     refine ⟨?_, ?_⟩
                     · (rw [hgrow.cell_far _ (by simp; omega) (Ne.symm hn2)]; assumption)
                     · (rw [hgrow.cell_far _ (by simp; omega) (Ne.symm hn2)]; assumption)))
                ((refine step_append_lies _ (by rfl) _ _ _ (by rfl) BB 74 i0 _ 2 16 Tryz.underlying27 hi hz0 hz1 hz2 rfl (by omega) (.slice (some ⟨g, 0, Option.none⟩) (q+1) d) (q+1) (cells (L ++ [t])) (by rfl) ((ROx.out.2.alloc _).drew) ⟨wx0.heap.size, 0, none⟩ 1 1 (cells [(u, v)]) (by rfl) (by rfl) (new_one wx0 (u, v) _ rfl) (cells_one_cell _) (by omega) (by unfold maxLen; omega) (by omega) (by simp; omega) (wx0.heap.size + 1) (by simp) ?_; intro gg c8 w4 hown' hgrow hat hlt9))
              obtain ⟨⟨A8, c8', hv8, hown2⟩, hb3, _, _, _⟩ := appL_step ROx.out HBx.out hszx (belowDrewN ((Below.refl _ _).alloc (Nat.le_refl _) _) 1) (m := 1) (K := [(u, v)]) rfl hown' hgrow
              simp only [Value.slice.injEq, true_and] at hv8
              obtain ⟨rfl, rfl⟩ := hv8
              have HO9 := Lib.hid hown2
              have HB9 := Lib.hid hb3
              clear hown' hgrow hown2 hb3 hat
              go_wp2_with fail
              go_roundw
              case rel => exact ⟨i+1, _, q+1+1, c8, (L ++ [t]) ++ [(u, v)], by omega, by omega, by go_num, rfl, HO9, RE3, RL3, HB9.out⟩
              case measure => simp [intOf]; omega
    · have RF : Hid (o = mixR way l m) := Lib.hid (by have := RE.out; rwa [sel_last (by have := HML.out; omega)] at this)
      have hlt' : ¬ ((i : Int) + 1 < (n : Int)) := by omega
      clear hbl
      go_wp2_with fail
      go_ret
      exact ⟨⟨_, _, _, rfl, by have := RO.out; rw [RF.out] at this; exact this.mono hsB⟩, HB6.out.trans (HBel.out.mono hsB)⟩
end Go.Proofs.YtblibmalommdkaaGreat

/-
  What the reference's Right answers, and the law's awake: true.
-/
namespace Go.Proofs.YtblibmalommdkaaGreat
open Go.RowKit
theorem right_nl {l : List R} (h : Right l) : nl l = l := (nl_is l).uniq (p' := In l) ⟨h, fun _ => Iff.rfl⟩ fun x => ⟨fun h => h.2, fun hx => ⟨by have := right_above h hx; omega, hx⟩⟩
theorem rightB_eq (l : List R) : rightB l = decide (l = nl l) := by
  by_cases h : Right l
  · rw [rightB_of h, right_nl h]; simp
  · rw [rightB_not h]
    symm
    rw [decide_eq_false_iff_not]
    intro e
    exact h (e ▸ (nl_is l).1)
set_option maxRecDepth 100000 in
theorem RefRight_any (A : Option Addr) (len cap : Nat) (w : World) (l : List R) (hlen : l.length = len) (hr : Rd w w.heap.size A l) (hI : IR l) (hm : len ≤ 100000) :
    Calls Tryz.prog 67 #[.slice A len cap] w fun e w' => e = .returned (.bool (rightB l)) ∧ Below w.heap.size w w' := by
  have H := Lib.hid hlen; have HR := Lib.hid hr; have HI := Lib.hid hI
  clear hlen hr hI
  go_enter Tryz.func67, Tryz.ntmps67
  go_wp2_with fail
  refine (Mix_any A len cap none 0 0 0 (.inl rfl) w l [] H.out HR.out HI.out rfl (Rd.nil _ _ _) (fun r hr => by cases hr) hm (by omega)).mono ?_
  rintro e w1 ⟨⟨A5, n5, c5, rfl, hown5⟩, hb5⟩
  rw [mix_nl] at hown5
  have HO5 := Lib.hid hown5; have HB5 := Lib.hid hb5
  have hc := hown5.cap
  unfold maxLen at hc
  clear hown5 hb5
  go_wp2_with fail
  refine (Same_any A len cap A5 n5 c5 _ l (nl l) H.out (HR.out.up HB5.out) (by omega) HO5.out.1 HO5.out.rd (by omega)).mono ?_
  rintro e w2 ⟨rfl, hb6⟩
  have HB6 := Lib.hid hb6
  clear hb6
  go_wp2_with fail
  go_ret
  exact ⟨ret_bool (rightB_eq l).symm, below_up HB5.out HB6.out⟩
def la : List R := [(0, 9)]
def lb : List R := [(2, 4), (8, 20)]
def lc : List R := [(0, 2), (4, 8)]
theorem lc_eq : lessR la lb = lc := by
  refine (lessR_is la lb).uniq (p' := In lc) ⟨⟨by decide, by decide, by decide, by decide, trivial⟩, fun _ => Iff.rfl⟩ fun x => ?_
  simp only [la, lb, lc, in_cons, in_nil, or_false]
  omega
theorem lc_right : Right lc := ⟨by decide, by decide, by decide, by decide, trivial⟩
theorem lc_tot : tot (nl lc) = 6 := by rw [right_nl lc_right]; rfl
theorem rd_new (w : World) (l : List R) (cs : Array Value) (hcs : cs.toList = cells l) (g : Nat) (hg : g = w.heap.size) : Rd (w.alloc (.cells cs 74)) (w.alloc (.cells cs 74)).heap.size (some ⟨g, 0, none⟩) l := by
  subst hg
  intro k s hs
  obtain ⟨h0, h1⟩ := cells_get l k s hs
  rw [← hcs] at h0 h1
  refine ⟨w.heap.size, 0, rfl, by simp, ?_, ?_⟩
  · rw [cell_new, ← Array.getElem?_toList]; simpa using h0
  · rw [cell_new, ← Array.getElem?_toList]; simpa using h1
theorem la_ir : IR la := fun r hr => by
  simp only [la, List.mem_cons, List.not_mem_nil, or_false] at hr
  subst hr; unfold I64; decide
theorem lb_ir : IR lb := fun r hr => by
  simp only [lb, List.mem_cons, List.not_mem_nil, or_false] at hr
  rcases hr with rfl | rfl <;> (unfold I64; decide)
theorem lc_ir : IR lc := fun r hr => by
  simp only [lc, List.mem_cons, List.not_mem_nil, or_false] at hr
  rcases hr with rfl | rfl <;> (unfold I64; decide)
end Go.Proofs.YtblibmalommdkaaGreat
