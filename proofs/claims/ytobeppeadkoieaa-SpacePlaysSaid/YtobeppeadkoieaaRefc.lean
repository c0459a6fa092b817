/-
  What the reference's Take, Keep and Top answer and leave.
-/
import Derived.Test.YtobeppeadkoieaaRefb
import Derived.Deep.RegionHeld3
namespace Go.Proofs.Ytobeppeadkoieaa
open Go.RowKit
attribute [local go_sem ↓] append_told
set_option maxHeartbeats 1600000 in
set_option maxRecDepth 100000 in
theorem Rf.take_yes {w : World} {p : Nat} {res : Int} {U W T : List Int} {Rs : Nat → Prop} (h : Rf w p res U W T Rs) (j : Int) (r0 : 0 ≤ res) (hj : res ≤ j) (hj2 : j < 1048576) (hu : j ∉ U) (hw : j ∉ W) (hl : ∀ i, res ≤ i → i < j → i ∈ U ∨ i ∈ W)
    (hU : U.length ≤ 1000000) (hW : W.length ≤ 1000000) (hT : T.length ≤ 1000000) :
    Calls Try.prog 23 #[.pointer (some ⟨p, 0, none⟩)] w fun e w' => e = .returned (.tuple #[.int .i64 j, .int .i64 0]) ∧ Rf w' p res (withL U j) W (T ++ [j]) (Sx Rs w w') ∧ Only w w' Rs := by
  obtain ⟨Au, cu, Aw, cw, At, ct, h⟩ := h
  have H0 := Lib.hid h
  have c0 := h.c0
  have c1 := h.c1
  have c2 := h.c2
  have HU := Lib.hid (show decide (j ∈ U) = false from decide_eq_false hu)
  have HW := Lib.hid (show decide (j ∈ W) = false from decide_eq_false hw)
  have HLT := Lib.hid hl
  clear h hu hw hl
  go_enter Try.func23, Try.ntmps23
  go_wp2_with fail
  go_loopw [4] (fun i wr => ∃ x : Int, res ≤ x ∧ x ≤ j ∧ i = .int .i64 x ∧ w = wr) (fun i _ => (j - intOf i).toNat)
  case atStart => exact ⟨res, Int.le_refl _, hj, rfl, rfl⟩
  case round =>
    obtain ⟨x, h0, h1, rfl, rfl⟩ := hrel
    have dx : decide (x < 1048576) = true := decide_eq_true (by omega)
    have qx : IntKind.i64.wrap (x + 1) = x + 1 := IntWalk.i64_in _ (by omega)
    by_cases hlt : x < j
    · by_cases hxu : x ∈ U
      · have HX := Lib.hid (show decide (x ∈ U) = true from decide_eq_true hxu)
        clear hxu
        go_wp2_with fail
        refine (has_any Au U.length cu x _ U rfl H0.out.ru hU).mono ?_
        rintro e w1 ⟨rfl, rfl⟩
        rw [HX.out]
        go_wp2_with fail
        go_roundw
        case rel => exact ⟨x+1, by omega, by omega, rfl, trivial⟩
        case measure => simp [intOf]; omega
      · have HX := Lib.hid (show decide (x ∈ U) = false from decide_eq_false hxu)
        have HX2 := Lib.hid (show decide (x ∈ W) = true from decide_eq_true ((HLT.out x h0 hlt).resolve_left hxu))
        clear hxu
        go_wp2_with fail
        refine (has_any Au U.length cu x _ U rfl H0.out.ru hU).mono ?_
        rintro e w1 ⟨rfl, rfl⟩
        rw [HX.out]
        go_wp2_with fail
        refine (has_any Aw W.length cw x _ W rfl H0.out.rw_ hW).mono ?_
        rintro e w1 ⟨rfl, rfl⟩
        rw [HX2.out]
        go_wp2_with fail
        go_roundw
        case rel => exact ⟨x+1, by omega, by omega, rfl, trivial⟩
        case measure => simp [intOf]; omega
    · obtain rfl : x = j := by omega
      clear hlt h0 h1 qx
      go_wp2_with fail
      refine (has_any Au U.length cu x _ U rfl H0.out.ru hU).mono ?_
      rintro e w1 ⟨rfl, rfl⟩
      rw [HU.out]
      go_wp2_with fail
      refine (has_any Aw W.length cw x _ W rfl H0.out.rw_ hW).mono ?_
      rintro e w1 ⟨rfl, rfl⟩
      rw [HW.out]
      go_wp2_with fail
      refine (with_any Au U.length cu x _ U rfl H0.out.ru hU).mono ?_
      rintro e w1 ⟨⟨A1, n1, k1, rfl, o1⟩, b1⟩
      obtain rfl : (withL U x).length = n1 := o1.1
      have h1 := H0.out.up b1
      have h2 := h1.setU (c' := k1) o1.rd (H0.out.own_new o1)
      have k2 := h1.c1
      have z2 := h1.f1
      have O2 := Lib.hid ((Only.of_below (X := Rs) b1).trans (Only.of_set w1 ⟨p, 1, none⟩ (.slice A1 (withL U x).length k1) h1.inp))
      have H2 := Lib.hid h2
      have k3 := h2.c3
      obtain ⟨A4, c4, w4, hrun, ho4, hg4, hblk⟩ := taken_append h2.rt h2.ct_ h2.tk x hT
      obtain ⟨k4, z4, h4, o4⟩ := h2.push ho4 hg4 hblk
      have hrun' : (appTold #[30, 30] 30 #[.slice At T.length ct, .slice (some ⟨(w1.setCell ⟨p, 1, none⟩ (.slice A1 (withL U x).length k1)).heap.size, 0, none⟩) 1 1]).run Try.prog ((w1.setCell ⟨p, 1, none⟩ (.slice A1 (withL U x).length k1)).alloc (.cells #[.int .i64 x] 3)) = .ok (.slice A4 (T.length + 1) c4) w4 := hrun
      have e2 : (w1.setCell ⟨p, 1, none⟩ (.slice A1 (withL U x).length k1)).heap.size = w1.heap.size := by simp
      rw [e2] at hrun'
      have hs1 := b1.size
      have hs4 : w1.heap.size ≤ w4.heap.size := by have := hg4.size; simp at this; omega
      have H4 := Lib.hid h4
      have O4 : Hid (Only w (w4.setCell ⟨p, 3, none⟩ (.slice A4 (T.length + 1) c4)) Rs) := Lib.hid (O2.out.trans (o4.mono fun b _ hx => hx.imp id (fun h => ⟨h.1, by simpa using h.2⟩)))
      clear h1 h2 o1 b1 hrun ho4 hg4 hblk h4 o4 H2 O2 HU HW HLT
      go_wp2_with fail
      go_ret2
      refine ⟨rfl, ⟨_, _, _, _, _, _, H4.out.more (fun b hb => ?_) (Sx.lt H0.out.lt O4.out.size)⟩, O4.out⟩
      rcases hb with (hb | hb) | hb
      · exact .inl hb
      · exact .inr ⟨hb.1, by simp; omega⟩
      · exact .inr ⟨by have := hb.1; simp at this; omega, by simpa using hb.2⟩
theorem Rf.take_full {w : World} {p : Nat} {res : Int} {U W T : List Int} {Rs : Nat → Prop} (h : Rf w p res U W T Rs) (r0 : 0 ≤ res) (r1 : res ≤ 1048576) (hl : ∀ i, res ≤ i → i < 1048576 → i ∈ U ∨ i ∈ W)
    (hU : U.length ≤ 1000000) (hW : W.length ≤ 1000000) :
    Calls Try.prog 23 #[.pointer (some ⟨p, 0, none⟩)] w fun e w' => e = .returned (.tuple #[.int .i64 0, .int .i64 9]) ∧ w = w' := by
  obtain ⟨Au, cu, Aw, cw, At, ct, h⟩ := h
  have H0 := Lib.hid h
  have c0 := h.c0
  have c1 := h.c1
  have c2 := h.c2
  have HLT := Lib.hid hl
  clear h hl
  go_enter Try.func23, Try.ntmps23
  go_wp2_with fail
  go_loopw [4] (fun i wr => ∃ x : Int, res ≤ x ∧ x ≤ 1048576 ∧ i = .int .i64 x ∧ w = wr) (fun i _ => (1048576 - intOf i).toNat)
  case atStart => exact ⟨res, Int.le_refl _, r1, rfl, rfl⟩
  case round =>
    obtain ⟨x, h0, h1, rfl, rfl⟩ := hrel
    have qx : IntKind.i64.wrap (x + 1) = x + 1 := IntWalk.i64_in _ (by omega)
    by_cases hlt : x < 1048576
    · have dx : decide (x < 1048576) = true := decide_eq_true (by omega)
      by_cases hxu : x ∈ U
      · have HX := Lib.hid (show decide (x ∈ U) = true from decide_eq_true hxu)
        clear hxu
        go_wp2_with fail
        refine (has_any Au U.length cu x _ U rfl H0.out.ru hU).mono ?_
        rintro e w1 ⟨rfl, rfl⟩
        rw [HX.out]
        go_wp2_with fail
        go_roundw
        case rel => exact ⟨x+1, by omega, by omega, rfl, trivial⟩
        case measure => simp [intOf]; omega
      · have HX := Lib.hid (show decide (x ∈ U) = false from decide_eq_false hxu)
        have HX2 := Lib.hid (show decide (x ∈ W) = true from decide_eq_true ((HLT.out x h0 hlt).resolve_left hxu))
        clear hxu
        go_wp2_with fail
        refine (has_any Au U.length cu x _ U rfl H0.out.ru hU).mono ?_
        rintro e w1 ⟨rfl, rfl⟩
        rw [HX.out]
        go_wp2_with fail
        refine (has_any Aw W.length cw x _ W rfl H0.out.rw_ hW).mono ?_
        rintro e w1 ⟨rfl, rfl⟩
        rw [HX2.out]
        go_wp2_with fail
        go_roundw
        case rel => exact ⟨x+1, by omega, by omega, rfl, trivial⟩
        case measure => simp [intOf]; omega
    · have dx : decide (x < 1048576) = false := decide_eq_false hlt
      clear hlt
      go_wp2_with fail
      go_ret2
      exact ⟨rfl, rfl⟩
/-- The greatest number and one. -/
def topL (t : Int) (l : List Int) : Int := l.foldl (fun t x => max t (x + 1)) t
theorem topL_take (t : Int) (l : List Int) (k : Nat) (x : Int) (h : l[k]? = some x) : topL t (l.take (k+1)) = max (topL t (l.take k)) (x + 1) := by
  rw [take_snoc l k x h, topL, List.foldl_append]; rfl
theorem topL_bd (l : List Int) : ∀ t, (0 ≤ t ∧ t ≤ 1048576) → (∀ x ∈ l, 0 ≤ x ∧ x < 1048576) → 0 ≤ topL t l ∧ topL t l ≤ 1048576 := by
  induction l with
  | nil => intro t h _; exact h
  | cons x l ih =>
    intro t h hl
    have := hl x (by simp)
    exact ih (max t (x + 1)) ⟨by omega, by omega⟩ (fun y hy => hl y (List.mem_cons_of_mem _ hy))
theorem topL_eq (l : List Int) : ∀ t, t ≤ topL t l ∧ (∀ x ∈ l, x + 1 ≤ topL t l) ∧ (topL t l = t ∨ ∃ x ∈ l, topL t l = x + 1) := by
  induction l with
  | nil => intro t; exact ⟨Int.le_refl _, fun x hx => absurd hx List.not_mem_nil, .inl rfl⟩
  | cons y l ih =>
    intro t
    obtain ⟨h1, h2, h3⟩ := ih (max t (y + 1))
    have e : topL t (y :: l) = topL (max t (y + 1)) l := rfl
    rw [e]
    refine ⟨by omega, fun x hx => ?_, ?_⟩
    · rcases List.mem_cons.1 hx with rfl | hx
      · omega
      · exact h2 x hx
    · rcases h3 with h3 | ⟨x, hx, h3⟩
      · by_cases hc : t ≤ y + 1
        · exact .inr ⟨y, by simp, by omega⟩
        · exact .inl (by omega)
      · exact .inr ⟨x, by simp [hx], h3⟩
theorem topL_set {l m : List Int} (h : ∀ x, x ∈ l ↔ x ∈ m) (t : Int) : topL t l = topL t m := by
  obtain ⟨a1, a2, a3⟩ := topL_eq l t
  obtain ⟨b1, b2, b3⟩ := topL_eq m t
  have h1 : topL t l ≤ topL t m := by
    rcases a3 with a3 | ⟨x, hx, a3⟩
    · omega
    · have := b2 x ((h x).1 hx); omega
  have h2 : topL t m ≤ topL t l := by
    rcases b3 with b3 | ⟨x, hx, b3⟩
    · omega
    · have := a2 x ((h x).2 hx); omega
  omega
set_option maxHeartbeats 800000 in
set_option maxRecDepth 100000 in
theorem Rf.top {w : World} {p : Nat} {res : Int} {U W T : List Int} {Rs : Nat → Prop} (h : Rf w p res U W T Rs) (r0 : 0 ≤ res) (r1 : res ≤ 1048576) (hu : ∀ x ∈ U, 0 ≤ x ∧ x < 1048576) (hw : ∀ x ∈ W, 0 ≤ x ∧ x < 1048576) (hU : U.length ≤ 1000000) (hW : W.length ≤ 1000000) :
    Calls Try.prog 18 #[.pointer (some ⟨p, 0, none⟩)] w fun e w' => e = .returned (.int .i64 (topL (topL res U) W)) ∧ w = w' := by
  obtain ⟨Au, cu, Aw, cw, At, ct, h⟩ := h
  have H0 := Lib.hid h
  have c0 := h.c0
  have c1 := h.c1
  have c2 := h.c2
  have HU := Lib.hid hu; have HW := Lib.hid hw
  clear h hu hw
  go_enter Try.func18, Try.ntmps18
  go_wp2_with fail
  go_loopw [3, 4] (fun t i wr => ∃ (k : Nat), k ≤ U.length ∧ i = .int .i64 k ∧ t = .int .i64 (topL res (U.take k)) ∧ w = wr) (fun _ i _ => U.length - (intOf i).toNat)
  case atStart => exact ⟨0, Nat.zero_le _, rfl, rfl, rfl⟩
  case round =>
    obtain ⟨k, hk, rfl, rfl, rfl⟩ := hrel
    by_cases hlt : k < U.length
    · obtain ⟨x, hx⟩ := get_some U k hlt
      have hxb := HU.out x (List.mem_of_getElem? hx)
      have HT := Lib.hid (topL_take res U k x hx)
      have htb := topL_bd (U.take k) res ⟨r0, r1⟩ (fun y hy => HU.out y (List.mem_of_mem_take hy))
      obtain ⟨b, off, rfl, hb, d0⟩ := H0.out.ru k x hx
      have qx : IntKind.i64.wrap (x + 1) = x + 1 := IntWalk.i64_in _ (by omega)
      clear hx
      generalize topL res (U.take k) = t at *
      by_cases hm : t ≤ x + 1
      · have HM : Hid (max t (x + 1) = x + 1) := Lib.hid (by omega)
        go_wp2_with fail
        go_roundw
        case rel => exact ⟨k+1, by omega, by go_num, by rw [HT.out]; first | rfl | (rw [HM.out]; simp; omega) | (simp; omega), trivial⟩
        case measure => simp [intOf]; omega
      · have HM : Hid (max t (x + 1) = t) := Lib.hid (by omega)
        go_wp2_with fail
        go_roundw
        case rel => exact ⟨k+1, by omega, by go_num, by rw [HT.out]; first | rfl | (rw [HM.out]; simp; omega) | (simp; omega), trivial⟩
        case measure => simp [intOf]; omega
    · obtain rfl : k = U.length := by omega
      have e1 : U.take U.length = U := List.take_length
      rw [e1]
      have htb := topL_bd U res ⟨r0, r1⟩ HU.out
      clear hlt
      obtain ⟨t0, ht0⟩ : ∃ t0, topL res U = t0 := ⟨_, rfl⟩
      rw [ht0] at htb ⊢
      have HT0 := Lib.hid ht0
      clear ht0
      go_wp2_with fail
      go_loopw [3, 5] (fun t i wr => ∃ (k : Nat), k ≤ W.length ∧ i = .int .i64 k ∧ t = .int .i64 (topL t0 (W.take k)) ∧ w = wr) (fun _ i _ => W.length - (intOf i).toNat)
      case atStart => exact ⟨0, Nat.zero_le _, rfl, rfl, rfl⟩
      case round =>
        obtain ⟨k, hk, rfl, rfl, rfl⟩ := hrel
        by_cases hlt : k < W.length
        · obtain ⟨x, hx⟩ := get_some W k hlt
          have hxb := HW.out x (List.mem_of_getElem? hx)
          have HT := Lib.hid (topL_take t0 W k x hx)
          have htb := topL_bd (W.take k) t0 htb (fun y hy => HW.out y (List.mem_of_mem_take hy))
          obtain ⟨b, off, rfl, hb, d0⟩ := H0.out.rw_ k x hx
          have qx : IntKind.i64.wrap (x + 1) = x + 1 := IntWalk.i64_in _ (by omega)
          clear hx
          generalize topL t0 (W.take k) = t at *
          by_cases hm : t ≤ x + 1
          · have HM : Hid (max t (x + 1) = x + 1) := Lib.hid (by omega)
            go_wp2_with fail
            go_roundw
            case rel => exact ⟨k+1, by omega, by go_num, by rw [HT.out]; first | rfl | (rw [HM.out]; simp; omega) | (simp; omega), trivial⟩
            case measure => simp [intOf]; omega
          · have HM : Hid (max t (x + 1) = t) := Lib.hid (by omega)
            go_wp2_with fail
            go_roundw
            case rel => exact ⟨k+1, by omega, by go_num, by rw [HT.out]; first | rfl | (rw [HM.out]; simp; omega) | (simp; omega), trivial⟩
            case measure => simp [intOf]; omega
        · obtain rfl : k = W.length := by omega
          have e1 : W.take W.length = W := List.take_length
          rw [e1]
          clear hlt
          go_wp2_with fail
          go_ret
          exact ⟨ret_int (by rw [HT0.out]), rfl⟩
end Go.Proofs.Ytobeppeadkoieaa
