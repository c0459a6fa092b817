/-
  What Free and Take answer and leave.
-/
import Derived.Test.YtobeppeadkoieaaWalkb
namespace Go.Proofs.Ytobeppeadkoieaa
open Go.RowKit
theorem Free_no (w : World) (sb bu bw : Nat) (res : Int) (u wt : Int → Bool) (A : Option Addr) (c : Nat) (tk : List Int) (N : Nat) (h : Sp w sb bu bw res u wt A c tk N) (no : Int) (hno : I64 no) (hf : u no = false) :
    Calls Try.prog 21 #[.pointer (some ⟨sb, 0, none⟩), .int .i64 no] w fun e w' => e = .returned (.int .i64 6) ∧ w = w' := by
  have L1 := h.hu.lookup mty hno
  rw [hf] at L1
  have c1 := h.c1
  clear h hf
  go_enter Try.func21, Try.ntmps21
  go_wp2_with fail
  go_ret
  exact ⟨rfl, rfl⟩
theorem Free_yes (w : World) (sb bu bw : Nat) (res : Int) (u wt : Int → Bool) (A : Option Addr) (c : Nat) (tk : List Int) (N : Nat) (h : Sp w sb bu bw res u wt A c tk N) (no : Int) (hno : I64 no) (hf : u no = true) (hN : N < 1099511627776) :
    Calls Try.prog 21 #[.pointer (some ⟨sb, 0, none⟩), .int .i64 no] w fun e w' => e = .returned (.int .i64 0) ∧ Sp w' sb bu bw res (upd u no false) (upd wt no true) A c tk (N+1) ∧ Below bu w w' ∧ Kp w w' sb A A := by
  have L1 := h.hu.lookup mty hno
  rw [hf] at L1
  have c1 := h.c1
  have l1 := h.l1
  have l2 := h.l2
  have lt := h.lt
  obtain ⟨w1, hrun1, hu1, hg1⟩ := h.hu.drop mty hno 0
  have h1 : Sp w1 sb bu bw res (upd u no false) wt A c tk N := h.turned (.inl rfl) hg1 hu1 (h.hw.kept hg1 (by intro hh; injection hh with hh; omega))
  have d2 := h1.c2
  obtain ⟨w2, hrun2, hw2, hg2⟩ := h1.hw.store mty (show N < maxLen by unfold maxLen; omega) hno
  have h2 : Sp w2 sb bu bw res (upd u no false) (upd wt no true) A c tk (N+1) := h1.turned (.inr rfl) hg2 ((h1.hu.kept hg2 (by intro hh; injection hh with hh; omega)).mono (Nat.le_succ _)) hw2
  have HS := Lib.hid h2
  have hsz1 := hg1.size
  have HB : Hid (Below bu w w2) := Lib.hid (((Below.refl bu w).grown hg1 (by omega) (fun k hk => by injection hk with hk; omega)).grown hg2 (by omega) (fun k hk => by injection hk with hk; omega))
  have HK : Hid (Kp w w2 sb A A) := Lib.hid ((Kp.grown A hg1 (by omega)).trans (Kp.grown A hg2 (by omega)) hsz1)
  clear h h1 h2 hg1 hg2 hu1 hw2 hf
  go_enter Try.func21, Try.ntmps21
  go_wp2_with fail
  go_ret
  exact ⟨rfl, HS.out, HB.out, HK.out⟩
theorem SetM.below {P : Program} {k e : TypeId} {w w' : World} {b n B : Nat} {u : Int → Bool} (h : SetM w P k e b n u) (hb : Below B w w') (hB : b < B) : SetM w' P k e b n u := by
  obtain ⟨D, ⟨es, clock, hh, r⟩, hu⟩ := h
  exact ⟨D, ⟨es, clock, (hb.block b hB).trans hh, r⟩, hu⟩
theorem Sp.push {w w' : World} {sb bu bw : Nat} {res : Int} {u wt : Int → Bool} {A : Option Addr} {c : Nat} {tk : List Int} {N : Nat} (h : Sp w sb bu bw res u wt A c tk N) (hb : Below (sb+1) w w') {A' : Option Addr} {c' : Nat} {tk' : List Int} (row' : OwnI w' (sb+1) A' tk'.length c' tk') :
    Sp (w'.setCell ⟨sb, 3, none⟩ (.slice A' tk'.length c')) sb bu bw res u wt A' c' tk' N := by
  obtain ⟨c0, c1, c2, c3, f3, hu, hw, row, l1, l2, lt⟩ := h
  have hc : ∀ j, w'.cell? ⟨sb, j, none⟩ = w.cell? ⟨sb, j, none⟩ := fun j => hb.cell (p := ⟨sb, j, none⟩) (Nat.lt_succ_self _)
  have hf : w'.frozen? ⟨sb, 3, none⟩ = w.frozen? ⟨sb, 3, none⟩ := hb.frozen (p := ⟨sb, 3, none⟩) (Nat.lt_succ_self _)
  have hsz := hb.size
  refine ⟨?_, ?_, ?_, World.cell?_setCell_same _ _ _ ((hc 3).trans c3), by rw [World.frozen?_setCell, hf]; exact f3, (hu.below hb (by omega)).setCell (show bu ≠ sb by omega) _, (hw.below hb (by omega)).setCell (show bw ≠ sb by omega) _, ?_, l1, l2, ?_⟩
  · exact (World.cell?_setCell_other _ _ _ _ (by intro hh; injection hh with _ h2 _; omega)).trans ((hc 0).trans c0)
  · exact (World.cell?_setCell_other _ _ _ _ (by intro hh; injection hh with _ h2 _; omega)).trans ((hc 1).trans c1)
  · exact (World.cell?_setCell_other _ _ _ _ (by intro hh; injection hh with _ h2 _; omega)).trans ((hc 2).trans c2)
  · refine ⟨row'.1, row'.2.kept (grown_setCell w' _ _) ?_⟩
    right
    intro hh
    have := row'.2.lt sb hh
    omega
  · have : sb < w'.heap.size := by omega
    simpa using this
theorem take_kp {w w1 w2 : World} {sb n m c c2 : Nat} {A A2 : Option Addr} {o : Obj} {v' : Value} (h : Kp w w1 sb A A) (hs : w.heap.size ≤ w1.heap.size) (hg : (w1.alloc o).grownBy w2 (Value.slice A n c).ownBlock)
    (hblk : v'.ownBlock = (Value.slice A n c).ownBlock ∨ v'.ownBlock = some (w1.alloc o).heap.size) (hv : v' = .slice A2 m c2) (x : Value) : Kp w (w2.setCell ⟨sb, 3, none⟩ x) sb A A2 := by
  subst hv
  intro g h1 h2 h3
  have e0 := (h g h1 h2 h3).1
  have e1 : (w1.alloc o).heap[g]? = w1.heap[g]? := (Below.refl _ _).alloc (Nat.le_refl _) o |>.block g (by omega)
  have hA : ∀ B : Option Addr, ∀ q r, (Value.slice B q r).ownBlock = B.map Addr.block := by intro B q r; cases B <;> rfl
  rw [hA] at hg
  rw [hA, hA] at hblk
  have e2 := hg.block g (by simp; omega) (fun e => h3 e.symm)
  have e3 := (grown_setCell w2 ⟨sb, 3, none⟩ x).block g (by have := hg.size; simp at this; omega) (by simp; omega)
  refine ⟨e3.trans (e2.trans (e1.trans e0)), ?_⟩
  rcases hblk with hb | hb
  · rw [hb]; exact h3
  · rw [hb]; simp; omega
set_option maxRecDepth 100000 in
theorem Take_any (w : World) (sb bu bw : Nat) (res : Int) (u wt : Int → Bool) (A : Option Addr) (c : Nat) (tk : List Int) (N : Nat) (h : Sp w sb bu bw res u wt A c tk N) (j : Int) (hr0 : 0 ≤ res) (hj : res ≤ j) (hj2 : j < 1048576)
    (hfu : u j = false) (hfw : wt j = false) (hleast : ∀ i, res ≤ i → i < j → u i = true ∨ wt i = true) (hN : N < 1099511627776) (htk : tk.length ≤ 1099511627776) :
    Calls Try.prog 13 #[.pointer (some ⟨sb, 0, none⟩)] w fun e w' => e = .returned (.tuple #[.int .i64 j, .int .i64 0]) ∧ (∃ A' c', Sp w' sb bu bw res (upd u j true) wt A' c' (tk ++ [j]) (N+1) ∧ Kp w w' sb A A') ∧ Below bu w w' := by
  obtain ⟨i0, hi, hz0, hz1, hz2⟩ := info_parts info3
  have c0 := h.c0
  have c1 := h.c1
  have c2 := h.c2
  have l1 := h.l1
  have l2 := h.l2
  have lt := h.lt
  have HH := Lib.hid h
  have HL := Lib.hid hleast
  have HFU := Lib.hid hfu
  have HFW := Lib.hid hfw
  clear h hleast hfu hfw
  go_enter Try.func13, Try.ntmps13
  go_wp2_with fail
  go_loopw [4] (fun v wr => ∃ i : Int, res ≤ i ∧ i ≤ j ∧ v = .int .i64 i ∧ w = wr) (fun v _ => (j + 1 - intOf v).toNat)
  case atStart => exact ⟨res, Int.le_refl _, hj, rfl, rfl⟩
  case round =>
    obtain ⟨i, hi0, hi1, rfl, rfl⟩ := hrel
    have hI : I64 i := ⟨by omega, by omega⟩
    have L1 := HH.out.hu.lookup mty hI
    have L2 := HH.out.hw.lookup mty hI
    by_cases hlt : i < j
    · rcases Bool.eq_false_or_eq_true (u i) with hu | hu
      · rw [hu] at L1
        clear hu L2
        go_wp2_with fail
        go_roundw
        case rel => exact ⟨i+1, by omega, by omega, by go_num, trivial⟩
        case measure => simp [intOf]; omega
      · have hw : wt i = true := (HL.out i hi0 hlt).resolve_left (by simp [hu])
        rw [hu] at L1
        rw [hw] at L2
        clear hu hw
        go_wp2_with fail
        go_roundw
        case rel => exact ⟨i+1, by omega, by omega, by go_num, trivial⟩
        case measure => simp [intOf]; omega
    · obtain rfl : i = j := by omega
      rw [HFU.out] at L1
      rw [HFW.out] at L2
      clear hlt
      obtain ⟨w1, hrun1, hu1, hg1⟩ := HH.out.hu.store mty (show N < maxLen by unfold maxLen; omega) hI
      have h1 : Sp w1 sb bu bw res (upd u i true) wt A c tk (N+1) := HH.out.turned (.inl rfl) hg1 hu1 ((HH.out.hw.kept hg1 (by intro hh; injection hh with hh; omega)).mono (Nat.le_succ _))
      have d3 := h1.c3
      have df := h1.f3
      have hsz1 := hg1.size
      have hlt1 := h1.lt
      have HB1 : Hid (Below bu w w1) := Lib.hid ((Below.refl bu w).grown hg1 (by omega) (fun k hk => by injection hk with hk; omega))
      have HS := Lib.hid h1
      have HK1 : Hid (Kp w w1 sb A A) := Lib.hid (Kp.grown A hg1 (by omega))
      clear h1 hg1 hu1
      go_wp2_with (at_builtin; refine wpList_append_block rfl _ _ 30 rfl (sb+1) 3 i0 _ 1 8 (by kernel_rfl) hi hz0 hz1 hz2 rfl (by decide) _ _ _ rfl (HS.out.row.alloc _).2 ⟨w1.heap.size, 0, none⟩ 1 1 (icells [i]) rfl rfl (newi_one _ _ _ rfl) (icells_one _) (by unfold maxLen; omega) (by omega) (by simp; omega) ?_)
      intro v' w2 hown' hgrow hblk
      obtain ⟨⟨A2, c2', hv, hown2⟩, hb2, _, _, _⟩ := appI_step HS.out.row (Below.refl _ _) (by omega) ((Below.refl _ _).alloc (Nat.le_refl _) _) (m := 1) (K := [i]) rfl hown' hgrow
      have HK2 : Hid (Kp w (w2.setCell ⟨sb, 3, none⟩ (.slice A2 (tk ++ [i]).length c2')) sb A A2) := Lib.hid (take_kp HK1.out hsz1 hgrow (by simpa using hblk) hv _)
      have hlen : (tk ++ [i]).length = tk.length + 1 := by simp
      rw [← hlen] at hown2 hv
      have HP := Lib.hid (HS.out.push hb2 hown2)
      have g3 : w2.cell? ⟨sb, 3, none⟩ = some (.slice A tk.length c) := (hb2.cell (p := ⟨sb, 3, none⟩) (Nat.lt_succ_self _)).trans d3
      have gf : w2.frozen? ⟨sb, 3, none⟩ = false := (hb2.frozen (p := ⟨sb, 3, none⟩) (Nat.lt_succ_self _)).trans df
      have HB2 : Hid (Below bu w (w2.setCell ⟨sb, 3, none⟩ (.slice A2 (tk ++ [i]).length c2'))) := Lib.hid ((HB1.out.trans (hb2.mono (by omega))).setCell (show bu ≤ sb by omega) _)
      rw [hv]
      generalize (tk ++ [i]).length = q at *
      clear hown' hgrow hv hown2 hb2 hlen d3 df
      go_wp2_with fail
      go_ret2
      exact ⟨rfl, ⟨_, _, HP.out, HK2.out⟩, HB2.out⟩
end Go.Proofs.Ytobeppeadkoieaa
