/-
  The reference's space in memory; what its Free, Settle and Take answer and leave.
-/
import Derived.Test.YtobeppeadkoieaaRefa
namespace Go.Proofs.Ytobeppeadkoieaa
open Go.RowKit
/-- The reference's space: its struct at block p, its three lists; Rs has all blocks of it. -/
structure RfAt (w : World) (p : Nat) (res : Int) (U W T : List Int) (Rs : Nat → Prop) (Au : Option Addr) (cu : Nat) (Aw : Option Addr) (cw : Nat) (At : Option Addr) (ct : Nat) : Prop where
  c0 : w.cell? ⟨p, 0, none⟩ = some (.int .i64 res)
  c1 : w.cell? ⟨p, 1, none⟩ = some (.slice Au U.length cu)
  c2 : w.cell? ⟨p, 2, none⟩ = some (.slice Aw W.length cw)
  c3 : w.cell? ⟨p, 3, none⟩ = some (.slice At T.length ct)
  f1 : w.frozen? ⟨p, 1, none⟩ = false
  f2 : w.frozen? ⟨p, 2, none⟩ = false
  f3 : w.frozen? ⟨p, 3, none⟩ = false
  ru : RdI w w.heap.size Au U
  rw_ : RdI w w.heap.size Aw W
  rt : RdI w w.heap.size At T
  ct_ : T.length ≤ ct ∧ ct ≤ 9223372036854775807
  tk : OwnI w 0 At T.length ct T ∨ ct = T.length
  inp : Rs p
  inu : ∀ b, inA Au b → Rs b ∧ b ≠ p
  inw : ∀ b, inA Aw b → Rs b ∧ b ≠ p
  int_ : ∀ b, inA At b → Rs b ∧ b ≠ p
  ap : ∀ b, inA At b → ¬ inA Au b ∧ ¬ inA Aw b
  lt : ∀ b, Rs b → b < w.heap.size
theorem RdI.setP {w : World} {A : Option Addr} {l : List Int} (h : RdI w w.heap.size A l) {p : Nat} (hA : ∀ b, inA A b → b ≠ p) (i : Nat) (v : Value) : RdI (w.setCell ⟨p, i, .none⟩ v) (w.setCell ⟨p, i, .none⟩ v).heap.size A l :=
  h.same (by simp) fun b _ hb => Below.heap_setCell w ⟨p, i, .none⟩ v b (hA b hb)
theorem OwnI.setP {w : World} {base n c : Nat} {A : Option Addr} {l : List Int} (h : OwnI w base A n c l) {p : Nat} (hA : ∀ b, inA A b → b ≠ p) (i : Nat) (v : Value) : OwnI (w.setCell ⟨p, i, .none⟩ v) base A n c l :=
  h.same fun b hb => Below.heap_setCell w ⟨p, i, .none⟩ v b (hA b hb)
section
variable {w : World} {p : Nat} {res : Int} {U W T : List Int} {Rs : Nat → Prop} {Au : Option Addr} {cu : Nat} {Aw : Option Addr} {cw : Nat} {At : Option Addr} {ct : Nat}
theorem RfAt.stays (h : RfAt w p res U W T Rs Au cu Aw cw At ct) {w' : World} (hs : w.heap.size ≤ w'.heap.size) (hk : ∀ b, Rs b → w'.heap[b]? = w.heap[b]?) : RfAt w' p res U W T Rs Au cu Aw cw At ct := by
  have e := hk p h.inp
  exact ⟨(World.cell?_of_block (w := w) (a := ⟨p, 0, none⟩) e).trans h.c0, (World.cell?_of_block (w := w) (a := ⟨p, 1, none⟩) e).trans h.c1, (World.cell?_of_block (w := w) (a := ⟨p, 2, none⟩) e).trans h.c2, (World.cell?_of_block (w := w) (a := ⟨p, 3, none⟩) e).trans h.c3,
    (World.frozen?_of_block (w := w) (a := ⟨p, 1, none⟩) e).trans h.f1, (World.frozen?_of_block (w := w) (a := ⟨p, 2, none⟩) e).trans h.f2, (World.frozen?_of_block (w := w) (a := ⟨p, 3, none⟩) e).trans h.f3,
    h.ru.same hs (fun b _ hb => hk b (h.inu b hb).1), h.rw_.same hs (fun b _ hb => hk b (h.inw b hb).1), h.rt.same hs (fun b _ hb => hk b (h.int_ b hb).1), h.ct_,
    h.tk.imp (fun ho => ho.same (fun b hb => hk b (h.int_ b hb).1)) id, h.inp, h.inu, h.inw, h.int_, h.ap, fun b hb => Nat.lt_of_lt_of_le (h.lt b hb) hs⟩
theorem RfAt.more (h : RfAt w p res U W T Rs Au cu Aw cw At ct) {Rs' : Nat → Prop} (hR : ∀ b, Rs b → Rs' b) (hl : ∀ b, Rs' b → b < w.heap.size) : RfAt w p res U W T Rs' Au cu Aw cw At ct :=
  { h with inp := hR _ h.inp, inu := fun b hb => ⟨hR _ (h.inu b hb).1, (h.inu b hb).2⟩, inw := fun b hb => ⟨hR _ (h.inw b hb).1, (h.inw b hb).2⟩, int_ := fun b hb => ⟨hR _ (h.int_ b hb).1, (h.int_ b hb).2⟩, lt := hl }
theorem RfAt.up (h : RfAt w p res U W T Rs Au cu Aw cw At ct) {w' : World} (hb : Below w.heap.size w w') : RfAt w' p res U W T (Sx Rs w w') Au cu Aw cw At ct :=
  (h.stays hb.size (fun b hb' => hb.block b (h.lt b hb'))).more (fun _ => .inl) (Sx.lt h.lt hb.size)
theorem cells_set {w : World} {p : Nat} {j : Nat} {v : Value} (h : w.cell? ⟨p, j, none⟩ = some v) (i : Nat) (hij : i ≠ j) (x : Value) : (w.setCell ⟨p, i, none⟩ x).cell? ⟨p, j, none⟩ = some v := by
  rw [World.cell?_setCell_other _ _ _ _ (by intro e; injection e with _ e2 _; exact hij e2)]; exact h
theorem RfAt.setU (h : RfAt w p res U W T Rs Au cu Aw cw At ct) {A' : Option Addr} {U' : List Int} {c' : Nat} (hr : RdI w w.heap.size A' U') (hA : ∀ b, inA A' b → (Rs b ∧ b ≠ p) ∧ ¬ inA At b) : RfAt (w.setCell ⟨p, 1, none⟩ (.slice A' U'.length c')) p res U' W T Rs A' c' Aw cw At ct :=
  ⟨cells_set h.c0 1 (by decide) _, World.cell?_setCell_same _ _ _ h.c1, cells_set h.c2 1 (by decide) _, cells_set h.c3 1 (by decide) _, by simpa using h.f1, by simpa using h.f2, by simpa using h.f3,
    hr.setP (fun b hb => (hA b hb).1.2) _ _, h.rw_.setP (fun b hb => (h.inw b hb).2) _ _, h.rt.setP (fun b hb => (h.int_ b hb).2) _ _, h.ct_, h.tk.imp (fun ho => ho.setP (fun b hb => (h.int_ b hb).2) _ _) id, h.inp, fun b hb => (hA b hb).1, h.inw, h.int_, fun b hb => ⟨fun h' => (hA b h').2 hb, (h.ap b hb).2⟩, fun b hb => by simpa using h.lt b hb⟩
theorem RfAt.setW (h : RfAt w p res U W T Rs Au cu Aw cw At ct) {A' : Option Addr} {W' : List Int} {c' : Nat} (hr : RdI w w.heap.size A' W') (hA : ∀ b, inA A' b → (Rs b ∧ b ≠ p) ∧ ¬ inA At b) : RfAt (w.setCell ⟨p, 2, none⟩ (.slice A' W'.length c')) p res U W' T Rs Au cu A' c' At ct :=
  ⟨cells_set h.c0 2 (by decide) _, cells_set h.c1 2 (by decide) _, World.cell?_setCell_same _ _ _ h.c2, cells_set h.c3 2 (by decide) _, by simpa using h.f1, by simpa using h.f2, by simpa using h.f3,
    h.ru.setP (fun b hb => (h.inu b hb).2) _ _, hr.setP (fun b hb => (hA b hb).1.2) _ _, h.rt.setP (fun b hb => (h.int_ b hb).2) _ _, h.ct_, h.tk.imp (fun ho => ho.setP (fun b hb => (h.int_ b hb).2) _ _) id, h.inp, h.inu, fun b hb => (hA b hb).1, h.int_, fun b hb => ⟨(h.ap b hb).1, fun h' => (hA b h').2 hb⟩, fun b hb => by simpa using h.lt b hb⟩
theorem RfAt.setT (h : RfAt w p res U W T Rs Au cu Aw cw At ct) {A' : Option Addr} {T' : List Int} {c' : Nat} (hr : RdI w w.heap.size A' T') (hc : T'.length ≤ c' ∧ c' ≤ 9223372036854775807) (ht : OwnI w 0 A' T'.length c' T' ∨ c' = T'.length) (hA : ∀ b, inA A' b → (Rs b ∧ b ≠ p) ∧ ¬ inA Au b ∧ ¬ inA Aw b) : RfAt (w.setCell ⟨p, 3, none⟩ (.slice A' T'.length c')) p res U W T' Rs Au cu Aw cw A' c' :=
  ⟨cells_set h.c0 3 (by decide) _, cells_set h.c1 3 (by decide) _, cells_set h.c2 3 (by decide) _, World.cell?_setCell_same _ _ _ h.c3, by simpa using h.f1, by simpa using h.f2, by simpa using h.f3,
    h.ru.setP (fun b hb => (h.inu b hb).2) _ _, h.rw_.setP (fun b hb => (h.inw b hb).2) _ _, hr.setP (fun b hb => (hA b hb).1.2) _ _, hc, ht.imp (fun ho => ho.setP (fun b hb => (hA b hb).1.2) _ _) id, h.inp, h.inu, h.inw, fun b hb => (hA b hb).1, fun b hb => (hA b hb).2, fun b hb => by simpa using h.lt b hb⟩
end
/-- The reference's space, wherever its lists lie. -/
def Rf (w : World) (p : Nat) (res : Int) (U W T : List Int) (Rs : Nat → Prop) : Prop := ∃ Au cu Aw cw At ct, RfAt w p res U W T Rs Au cu Aw cw At ct
theorem Rf.stays {w w' : World} {p : Nat} {res : Int} {U W T : List Int} {Rs : Nat → Prop} (h : Rf w p res U W T Rs) (hs : w.heap.size ≤ w'.heap.size) (hk : ∀ b, Rs b → w'.heap[b]? = w.heap[b]?) : Rf w' p res U W T Rs := by
  obtain ⟨Au, cu, Aw, cw, At, ct, h⟩ := h
  exact ⟨Au, cu, Aw, cw, At, ct, h.stays hs hk⟩
theorem Rf.up {w w' : World} {p : Nat} {res : Int} {U W T : List Int} {Rs : Nat → Prop} (h : Rf w p res U W T Rs) (hb : Below w.heap.size w w') : Rf w' p res U W T (Sx Rs w w') := by
  obtain ⟨Au, cu, Aw, cw, At, ct, h⟩ := h
  exact ⟨Au, cu, Aw, cw, At, ct, h.up hb⟩
theorem Rf.more {w : World} {p : Nat} {res : Int} {U W T : List Int} {Rs Rs' : Nat → Prop} (h : Rf w p res U W T Rs) (hR : ∀ b, Rs b → Rs' b) (hl : ∀ b, Rs' b → b < w.heap.size) : Rf w p res U W T Rs' := by
  obtain ⟨Au, cu, Aw, cw, At, ct, h⟩ := h
  exact ⟨Au, cu, Aw, cw, At, ct, h.more hR hl⟩
theorem Rf.lt {w : World} {p : Nat} {res : Int} {U W T : List Int} {Rs : Nat → Prop} (h : Rf w p res U W T Rs) : ∀ b, Rs b → b < w.heap.size := by
  obtain ⟨Au, cu, Aw, cw, At, ct, h⟩ := h
  exact h.lt
/-- A row of numbers that a call made. -/
theorem RfAt.own_new {w0 w : World} {p : Nat} {res : Int} {U W T : List Int} {Rs : Nat → Prop} {Au : Option Addr} {cu : Nat} {Aw : Option Addr} {cw : Nat} {At : Option Addr} {ct : Nat} (H : RfAt w0 p res U W T Rs Au cu Aw cw At ct) {A : Option Addr} {n c : Nat} {l : List Int} (h : OwnI w w0.heap.size A n c l) : ∀ b, inA A b → (Sx Rs w0 w b ∧ b ≠ p) ∧ ¬ inA At b := fun b hb => by
  obtain ⟨h1, h2⟩ := row_in h hb
  have hp := H.lt p H.inp
  exact ⟨⟨.inr ⟨h1, h2⟩, by omega⟩, fun h3 => by have := H.lt b (H.int_ b h3).1; omega⟩
theorem Rf.free_no {w : World} {p : Nat} {res : Int} {U W T : List Int} {Rs : Nat → Prop} (h : Rf w p res U W T Rs) (no : Int) (hno : no ∉ U) (hU : U.length ≤ 1000000) :
    Calls Try.prog 24 #[.pointer (some ⟨p, 0, none⟩), .int .i64 no] w fun e w' => e = .returned (.int .i64 6) ∧ w = w' := by
  obtain ⟨Au, cu, Aw, cw, At, ct, h⟩ := h
  have HR := Lib.hid h.ru
  have c1 := h.c1
  have HN := Lib.hid (show decide (no ∈ U) = false from decide_eq_false hno)
  clear h hno
  go_enter Try.func24, Try.ntmps24
  go_wp2_with fail
  refine (has_any Au U.length cu no _ U rfl HR.out hU).mono ?_
  rintro e w1 ⟨rfl, rfl⟩
  rw [HN.out]
  go_wp2_with fail
  go_ret
  exact ⟨rfl, rfl⟩
theorem Rf.free_yes {w : World} {p : Nat} {res : Int} {U W T : List Int} {Rs : Nat → Prop} (h : Rf w p res U W T Rs) (no : Int) (hno : no ∈ U) (hU : U.length ≤ 1000000) (hW : W.length ≤ 1000000) :
    Calls Try.prog 24 #[.pointer (some ⟨p, 0, none⟩), .int .i64 no] w fun e w' => e = .returned (.int .i64 0) ∧ Rf w' p res (outL U no) (withL W no) T (Sx Rs w w') ∧ Only w w' Rs := by
  obtain ⟨Au, cu, Aw, cw, At, ct, h⟩ := h
  have H0 := Lib.hid h
  have c1 := h.c1
  have hp := h.lt p h.inp
  have HN := Lib.hid (show decide (no ∈ U) = true from decide_eq_true hno)
  clear h hno
  go_enter Try.func24, Try.ntmps24
  go_wp2_with fail
  refine (has_any Au U.length cu no _ U rfl H0.out.ru hU).mono ?_
  rintro e w1 ⟨rfl, rfl⟩
  rw [HN.out]
  go_wp2_with fail
  refine (without_any Au U.length cu no _ U rfl H0.out.ru hU).mono ?_
  rintro e w1 ⟨⟨A1, n1, k1, rfl, o1⟩, b1⟩
  obtain rfl : (outL U no).length = n1 := o1.1
  have h1 := H0.out.up b1
  have h2 := h1.setU (c' := k1) o1.rd (H0.out.own_new o1)
  have k2 := h1.c1
  have z2 := h1.f1
  have O2 := Lib.hid ((Only.of_below (X := Rs) b1).trans (Only.of_set w1 ⟨p, 1, none⟩ (.slice A1 (outL U no).length k1) h1.inp))
  have H2 := Lib.hid h2
  have hs1 := b1.size
  have e2 : (w1.setCell ⟨p, 1, none⟩ (.slice A1 (outL U no).length k1)).heap.size = w1.heap.size := by simp
  have k3 := H2.out.c2
  clear h1 h2 o1 b1 c1
  go_wp2_with fail
  clear k2 z2
  generalize w1.setCell ⟨p, 1, none⟩ (.slice A1 (outL U no).length k1) = w2 at *
  refine (with_any Aw W.length cw no _ W rfl H2.out.rw_ hW).mono ?_
  rintro e w3 ⟨⟨A3, n3, k3', rfl, o3⟩, b3⟩
  obtain rfl : (withL W no).length = n3 := o3.1
  have h3 := H2.out.up b3
  have h4 := h3.setW (c' := k3') o3.rd (H2.out.own_new o3)
  have k4 := h3.c2
  have z4 := h3.f2
  have O3 : Only w w3 Rs := O2.out.trans ((Only.of_below b3).mono fun _ _ => id)
  have O4 := Lib.hid (O3.trans (Only.of_set w3 ⟨p, 2, none⟩ (.slice A3 (withL W no).length k3') (X := Sx Rs w w3) (.inl H0.out.inp)))
  have H4 := Lib.hid h4
  have hs3 := b3.size
  clear h3 h4 o3 b3 k3 O3
  go_wp2_with fail
  go_ret
  refine ⟨rfl, ⟨_, _, _, _, _, _, H4.out.more (fun b hb => ?_) (Sx.lt H0.out.lt O4.out.size)⟩, O4.out⟩
  rcases hb with (hb | hb) | hb
  · exact .inl hb
  · exact .inr ⟨hb.1, by simp; omega⟩
  · exact .inr ⟨by omega, by simpa using hb.2⟩
theorem Rf.settle {w : World} {p : Nat} {res : Int} {U W T : List Int} {Rs : Nat → Prop} (h : Rf w p res U W T Rs) :
    Calls Try.prog 25 #[.pointer (some ⟨p, 0, none⟩)] w fun e w' => e = .returned (.tuple #[]) ∧ Rf w' p res U [] [] (Sx Rs w w') ∧ Only w w' Rs := by
  obtain ⟨Au, cu, Aw, cw, At, ct, h⟩ := h
  have k2 := h.c2
  have k3 := h.c3
  have z2 := h.f2
  have z3 := h.f3
  have h1 := h.setW (A' := none) (W' := []) (c' := 0) (RdI.nil _ _ _) (fun b hb => absurd hb inA_none)
  have h2 := h1.setT (A' := none) (T' := []) (c' := 0) (RdI.nil _ _ _) ⟨Nat.le_refl _, by omega⟩ (.inr rfl) (fun b hb => absurd hb inA_none)
  have O2 : Only w ((w.setCell ⟨p, 2, none⟩ (.slice none 0 0)).setCell ⟨p, 3, none⟩ (.slice none 0 0)) Rs := (Only.of_set w ⟨p, 2, none⟩ (.slice none 0 0) h.inp).trans (Only.of_set _ ⟨p, 3, none⟩ (.slice none 0 0) (.inl h.inp))
  have HL := Lib.hid h.lt
  have H2 := Lib.hid h2; have HO := Lib.hid O2
  clear h h1 h2 O2
  go_enter Try.func25, Try.ntmps25
  go_wp2_with fail
  refine ⟨rfl, .tuple #[], ?_, rfl, ⟨_, _, _, _, _, _, H2.out.more (fun b hb => .inl hb) (Sx.lt HL.out HO.out.size)⟩, HO.out⟩
  first | rfl | (simp [Results, Try.f25]; done) | kernel_rfl
/-- An append whose run is told by a hypothesis: the walk does not lay it open. -/
def appTold (ts : Array TypeId) (ty : TypeId) (vs : Array Value) : Sem Value := Builtin.append_ ts ty vs
theorem append_told (ts : Array TypeId) (ty : TypeId) (vs : Array Value) : Builtin.append_ ts ty vs = appTold ts ty vs := rfl
/-- An append of one number to a row of the call's own, or to one without room. -/
theorem taken_append {w : World} {At : Option Addr} {ct : Nat} {T : List Int} (hr : RdI w w.heap.size At T) (hc : T.length ≤ ct ∧ ct ≤ 9223372036854775807) (tk : OwnI w 0 At T.length ct T ∨ ct = T.length) (x : Int) (hT : T.length ≤ 1000000) :
    ∃ A' c' w', (Builtin.append_ #[30, 30] 30 #[.slice At T.length ct, .slice (some ⟨w.heap.size, 0, none⟩) 1 1]).run Try.prog (w.alloc (.cells #[.int .i64 x] 3)) = .ok (.slice A' (T.length + 1) c') w' ∧ OwnI w' 0 A' (T.length + 1) c' (T ++ [x]) ∧
      (w.alloc (.cells #[.int .i64 x] 3)).grownBy w' (Value.slice At T.length ct).ownBlock ∧ ((Value.slice A' (T.length + 1) c').ownBlock = (Value.slice At T.length ct).ownBlock ∨ (Value.slice A' (T.length + 1) c').ownBlock = some (w.heap.size + 1)) := by
  obtain ⟨i0, hi, hz0, hz1, hz2⟩ := info_parts info3
  rcases tk with ho | he
  · obtain ⟨v', w', hrun, h2, h3, _⟩ := run_append_own (P := Try.prog) (w.alloc (.cells #[.int .i64 x] 3)) 0 30 30 3 i0 _ 1 8 Try.underlying30 hi hz0 hz1 hz2 rfl (by decide) (.slice At T.length ct) T.length (icells T) (ho.alloc _).2 ⟨w.heap.size, 0, none⟩ 1 1 (icells [x]) rfl (newi_one w x _ rfl) (icells_one _) (by unfold maxLen; omega) (by omega) (Nat.zero_le _)
    have hb := run_append_block (P := Try.prog) (w.alloc (.cells #[.int .i64 x] 3)) 0 30 30 3 i0 _ 1 8 Try.underlying30 hi hz0 hz1 hz2 (.slice At T.length ct) T.length (icells T) (ho.alloc _).2 ⟨w.heap.size, 0, none⟩ 1 1 (icells [x]) rfl (newi_one w x _ rfl) (icells_one _) (by unfold maxLen; omega) (by omega) hrun
    obtain ⟨A', c', rfl⟩ := ext_of_ownI h2
    exact ⟨A', c', w', hrun, ⟨by simp, by simpa [icells] using h2⟩, h3, by simpa using hb⟩
  · subst he
    cases At with
    | none =>
      have hT0 : T = [] := by
        cases T with
        | nil => rfl
        | cons y T =>
          obtain ⟨b, off, e, _⟩ := hr 0 y rfl
          cases e
      subst hT0
      obtain ⟨v', w', hrun, h2, h3, _⟩ := run_append_own (P := Try.prog) (w.alloc (.cells #[.int .i64 x] 3)) 0 30 30 3 i0 _ 1 8 Try.underlying30 hi hz0 hz1 hz2 rfl (by decide) (.slice none 0 0) 0 (icells []) ((OwnI.nil w 0).alloc _).2 ⟨w.heap.size, 0, none⟩ 1 1 (icells [x]) rfl (newi_one w x _ rfl) (icells_one _) (by unfold maxLen; omega) (by omega) (Nat.zero_le _)
      have hb := run_append_block (P := Try.prog) (w.alloc (.cells #[.int .i64 x] 3)) 0 30 30 3 i0 _ 1 8 Try.underlying30 hi hz0 hz1 hz2 (.slice none 0 0) 0 (icells []) ((OwnI.nil w 0).alloc _).2 ⟨w.heap.size, 0, none⟩ 1 1 (icells [x]) rfl (newi_one w x _ rfl) (icells_one _) (by unfold maxLen; omega) (by omega) hrun
      obtain ⟨A', c', rfl⟩ := ext_of_ownI h2
      exact ⟨A', c', w', hrun, ⟨by simp, by simpa [icells] using h2⟩, h3, by simpa using hb⟩
    | some a =>
      have hcells : ∀ j u, (icells T)[j]? = some u → (w.alloc (.cells #[.int .i64 x] 3)).cell? (a.add j) = some u := (hr.alloc (Nat.le_refl _) (.cells #[.int .i64 x] 3)).cells' a rfl
      have hrun := run_append_grow (P := Try.prog) (w.alloc (.cells #[.int .i64 x] 3)) 30 30 3 i0 _ Try.underlying30 hi hz0 a T.length T.length (icells T) (by simp [icells, hz1]) hcells ⟨w.heap.size, 0, none⟩ 1 1 (icells [x]) (by simp [icells, hz1]) (newi_one w x _ rfl) (by omega) (by omega) (growslice_fits (by omega) (by rw [hz2]; omega))
      refine ⟨_, _, _, hrun, ⟨by simp, ?_⟩, ⟨rfl, rfl, rfl, by simp, fun k hk _ => heap_alloc_old _ _ (by simpa using hk)⟩, .inr (by simp [Value.ownBlock])⟩
      have hge := grownCap_ge (w.alloc (.cells #[.int .i64 x] 3)) (T.length + 1) T.length 3
      have hcm : grownCap (w.alloc (.cells #[.int .i64 x] 3)) (T.length + 1) T.length 3 ≤ maxLen := grownCap_le_maxLen _ _ _ _ (by unfold maxLen; omega)
      refine ⟨by simp [icells], .inr ⟨(w.alloc (.cells #[.int .i64 x] 3)).heap.size, _, _, rfl, Nat.zero_le _, heap_alloc_new _ _, hge, hcm, ?_, ?_⟩⟩
      · simp only [Array.size_append, List.size_toArray, size_zeroCells, icells, List.length_map, List.length_cons, List.length_nil]
        simp [Value.cells]
        omega
      · simp only [Array.toList_append, List.append_assoc]
        have e : icells T ++ (icells [x] ++ (Builtin.zeroCells (Value.int .i64 0).cells (grownCap (w.alloc (.cells #[.int .i64 x] 3)) (T.length + 1) T.length 3 - (T.length + 1))).toList) = icells (T ++ [x]) ++ (Builtin.zeroCells (Value.int .i64 0).cells (grownCap (w.alloc (.cells #[.int .i64 x] 3)) (T.length + 1) T.length 3 - (T.length + 1))).toList := by simp [icells]
        rw [e]
        have e2 : (T.length + 1) * 1 = (icells (T ++ [x])).length := by simp [icells]
        rw [e2]
        exact List.take_left
/-- The struct behind an append to what was taken. -/
theorem RfAt.push {w w4 : World} {p : Nat} {res : Int} {U W T : List Int} {Rs : Nat → Prop} {Au : Option Addr} {cu : Nat} {Aw : Option Addr} {cw : Nat} {At : Option Addr} {ct : Nat} (h : RfAt w p res U W T Rs Au cu Aw cw At ct) {o : Obj} {A4 : Option Addr} {c4 : Nat} {x : Int}
    (ho : OwnI w4 0 A4 (T.length + 1) c4 (T ++ [x])) (hg : (w.alloc o).grownBy w4 (Value.slice At T.length ct).ownBlock) (hb : (Value.slice A4 (T.length + 1) c4).ownBlock = (Value.slice At T.length ct).ownBlock ∨ (Value.slice A4 (T.length + 1) c4).ownBlock = some (w.heap.size + 1)) :
    w4.cell? ⟨p, 3, none⟩ = some (.slice At T.length ct) ∧ w4.frozen? ⟨p, 3, none⟩ = false ∧ RfAt (w4.setCell ⟨p, 3, none⟩ (.slice A4 (T.length + 1) c4)) p res U W (T ++ [x]) (Sx Rs w w4) Au cu Aw cw A4 c4 ∧ Only w (w4.setCell ⟨p, 3, none⟩ (.slice A4 (T.length + 1) c4)) Rs := by
  have hrow : ∀ b, (Value.slice At T.length ct).ownBlock = some b ↔ inA At b := fun b => by cases At <;> simp [Value.ownBlock, inA]
  have hrow4 : ∀ b, (Value.slice A4 (T.length + 1) c4).ownBlock = some b ↔ inA A4 b := fun b => by cases A4 <;> simp [Value.ownBlock, inA]
  have hs4 : w.heap.size + 1 ≤ w4.heap.size := by have := hg.size; simpa using this
  have keep : ∀ b, b < w.heap.size → ¬ inA At b → w4.heap[b]? = w.heap[b]? := fun b h1 h2 => (hg.block b (by simp; omega) (fun e => h2 ((hrow b).1 e.symm))).trans (heap_alloc_old _ _ h1)
  have hp := h.lt p h.inp
  have ep := keep p hp (fun h1 => (h.int_ p h1).2 rfl)
  have hc4 := ho.cap
  unfold maxLen at hc4
  have hin4 : ∀ b, inA A4 b → (Sx Rs w w4 b ∧ b ≠ p) ∧ ¬ inA Au b ∧ ¬ inA Aw b := fun b h1 => by
    rcases hb with hb | hb
    · have h2 := (hrow b).1 (hb ▸ (hrow4 b).2 h1)
      exact ⟨⟨.inl (h.int_ b h2).1, (h.int_ b h2).2⟩, h.ap b h2⟩
    · have h2 := (hrow4 b).2 h1
      rw [hb] at h2
      have h3 : b = w.heap.size + 1 := by injection h2 with h2; exact h2.symm
      have h4 := (row_in ho h1).2
      exact ⟨⟨.inr ⟨by omega, h4⟩, by omega⟩, fun h5 => by have := h.lt b (h.inu b h5).1; omega, fun h5 => by have := h.lt b (h.inw b h5).1; omega⟩
  have hu : ∀ b, b < w.heap.size → inA Au b → w4.heap[b]? = w.heap[b]? := fun b h1 h2 => keep b h1 (fun h3 => (h.ap b h3).1 h2)
  have hw : ∀ b, b < w.heap.size → inA Aw b → w4.heap[b]? = w.heap[b]? := fun b h1 h2 => keep b h1 (fun h3 => (h.ap b h3).2 h2)
  have k3 := (World.cell?_of_block (w := w) (a := ⟨p, 3, none⟩) ep).trans h.c3
  have z3 := (World.frozen?_of_block (w := w) (a := ⟨p, 3, none⟩) ep).trans h.f3
  have hlen : (T ++ [x]).length = T.length + 1 := by simp
  refine ⟨k3, z3, ?_, ?_⟩
  · refine ⟨cells_set ((World.cell?_of_block (w := w) (a := ⟨p, 0, none⟩) ep).trans h.c0) 3 (by decide) _, cells_set ((World.cell?_of_block (w := w) (a := ⟨p, 1, none⟩) ep).trans h.c1) 3 (by decide) _, cells_set ((World.cell?_of_block (w := w) (a := ⟨p, 2, none⟩) ep).trans h.c2) 3 (by decide) _, ?_,
      by simpa using (World.frozen?_of_block (w := w) (a := ⟨p, 1, none⟩) ep).trans h.f1, by simpa using (World.frozen?_of_block (w := w) (a := ⟨p, 2, none⟩) ep).trans h.f2, by simpa using z3,
      (h.ru.same (by omega) hu).setP (fun b hb => (h.inu b hb).2) _ _, (h.rw_.same (by omega) hw).setP (fun b hb => (h.inw b hb).2) _ _, ho.rd.setP (fun b hb => (hin4 b hb).1.2) _ _, by rw [hlen]; omega, .inl (by rw [hlen]; exact ho.setP (fun b hb => (hin4 b hb).1.2) _ _),
      .inl h.inp, fun b hb => ⟨.inl (h.inu b hb).1, (h.inu b hb).2⟩, fun b hb => ⟨.inl (h.inw b hb).1, (h.inw b hb).2⟩, fun b hb => (hin4 b hb).1, fun b hb => (hin4 b hb).2, fun b hb => ?_⟩
    · rw [World.cell?_setCell_same _ _ _ k3, hlen]
    · have := Sx.lt h.lt (w' := w4) (by omega) b hb
      simpa using this
  · refine ⟨hg.os, hg.tape, hg.output, by simp; omega, fun g h1 h2 => ?_⟩
    rw [Below.heap_setCell w4 ⟨p, 3, none⟩ _ g (fun e => h2 (e ▸ h.inp))]
    exact keep g h1 (fun h3 => h2 (h.int_ g h3).1)
end Go.Proofs.Ytobeppeadkoieaa
