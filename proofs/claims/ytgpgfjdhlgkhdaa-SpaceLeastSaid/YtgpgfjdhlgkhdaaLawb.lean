/-
  That the law SpaceLeast returns true.
-/
import Derived.Test.YtgpgfjdhlgkhdaaWalke
import Derived.Test.YtgpgfjdhlgkhdaaLawa
import Derived.Deep.CutBlock
namespace Go.Proofs.Ytgpgfjdhlgkhdaa
open Go.RowKit
theorem BR.congr {w : World} {g n : Nat} {f f' : Int → Bool} (h : BR w g n f) (e : ∀ i : Nat, i < n → f i = f' i) : BR w g n f' := ⟨h.1, fun i hi => by rw [← e i hi]; exact h.2 i hi⟩
theorem Sp.low {w w' : World} {sb bu bw B : Nat} {res : Int} {u wt : Int → Bool} {N : Nat} (h : Sp w sb bu bw res u wt none 0 [] N) (hb : Below B w w') (hB : sb < B) : Sp w' sb bu bw res u wt none 0 [] N := by
  obtain ⟨c0, c1, c2, c3, f3, hu, hw, row, l1, l2, lt⟩ := h
  have hblk := hb.block sb hB
  have hc : ∀ j, w'.cell? ⟨sb, j, none⟩ = w.cell? ⟨sb, j, none⟩ := fun j => World.cell?_of_block (w := w) hblk
  exact ⟨(hc 0).trans c0, (hc 1).trans c1, (hc 2).trans c2, (hc 3).trans c3, (World.frozen?_of_block (w := w) hblk).trans f3, hu.below hb (by omega), hw.below hb (by omega), OwnI.nil _ _, l1, l2, Nat.lt_of_lt_of_le lt hb.size⟩
/-- What holds ahead of each Take. -/
structure LeastR (w wr : World) (sb bu bw g1 : Nat) (res : Int) (u wt : Int → Bool) (A : Option Addr) (c : Nat) (tk : List Int) (N : Nat) (K : List Int) (nx : Int) (k : Nat) : Prop where
  sp : Sp wr sb bu bw res u wt A c tk N
  nN : N ≤ 200 + k
  nt : tk.length ≤ k
  nK : K.length ≤ 60 + k
  inK : ∀ j, (u j || wt j) = true → j ∈ K
  a1 : A.map Addr.block ≠ some g1
  s1 : sb < g1
  r1 : BR wr g1 300 (fun j => u j || wt j)
  lo : w.heap.size ≤ bu
  bl : Below w.heap.size w wr
  n0 : res ≤ nx
  n1 : ∀ i, res ≤ i → i < nx → (u i || wt i) = true
theorem LeastR.take {w wr w' : World} {sb bu bw g1 : Nat} {res : Int} {u wt : Int → Bool} {A A' : Option Addr} {c c' : Nat} {tk : List Int} {N : Nat} {K : List Int} {k : Nat} {nx : Int} (h : LeastR w wr sb bu bw g1 res u wt A c tk N K nx k)
    (j : Nat) (hj : j < 300) (hjr : res ≤ j) (hjl : ∀ i, res ≤ i → i < (j : Int) → (u i || wt i) = true) (hs : Sp w' sb bu bw res (upd u j true) wt A' c' (tk ++ [(j : Int)]) (N+1)) (hk : Kp wr w' sb A A') (hb : Below bu wr w') : LeastR w (w'.setCell ⟨g1, j, none⟩ (.bool true)) sb bu bw g1 res (upd u j true) wt A' c' (tk ++ [(j : Int)]) (N+1) ((j : Int) :: K) j (k+1) := by
  obtain ⟨k1, k2⟩ := hk g1 h.r1.1 h.s1 h.a1
  have hw1 := h.sp.l1
  have hw2 := h.sp.l2
  have hs1 := h.s1
  refine ⟨hs.beside (grown_setCell _ ⟨g1, j, none⟩ _) h.s1 k2, by have := h.nN; omega, by have := h.nt; simp; omega, by have := h.nK; simp; omega, ?_, k2, h.s1, ((h.r1.kept k1 hb.size).set j hj true).congr ?_, h.lo, (h.bl.trans (hb.mono h.lo)).setCell (by have := h.lo; show w.heap.size ≤ g1; omega) _, hjr, ?_⟩
  · intro i hi
    by_cases he : i = (j : Int)
    · simp [he]
    · rw [upd_other _ _ he] at hi
      exact List.mem_cons_of_mem _ (h.inK i hi)
  · intro i _
    by_cases he : (i : Int) = (j : Int)
    · simp [he, upd]
    · simp [he, upd]
  · intro i h0 h1
    rw [upd_other _ _ (by omega)]
    exact hjl i h0 h1
theorem ownI_beside {w : World} {g : Nat} {A : Option Addr} {n c : Nat} {l : List Int} (h : OwnI w (g+1) A n c l) (o : Nat) (v : Value) : OwnI (w.setCell ⟨g, o, none⟩ v) (g+1) A n c l := by
  refine ⟨h.1, h.2.kept (grown_setCell w _ _) ?_⟩
  right
  intro hh
  have := h.2.lt g hh
  omega
set_option maxRecDepth 20000 in
set_option maxHeartbeats 1000000 in
theorem least_walk (res0 : Int) (A1 : Option Addr) (len1 cap1 : Nat) (A2 : Option Addr) (len2 cap2 : Nat) (n0 : Int) (w : World) (l1 l2 : List Int) (hlen1 : l1.length = len1) (hr1 : RdI w w.heap.size A1 l1) (hi1 : ∀ v ∈ l1, I64 v)
    (hlen2 : l2.length = len2) (hr2 : RdI w w.heap.size A2 l2) (hi2 : ∀ v ∈ l2, I64 v) (b0 : I64 res0) (b1 : I64 n0) :
    Calls Try.prog 4 #[.int .i64 res0, .slice A1 len1 cap1, .slice A2 len2 cap2, .int .i64 n0] w fun e w' => e = .returned (.bool true) ∧ Below w.heap.size w w' := by
  obtain ⟨j0, hj, hy0, hy1, hy2⟩ := info_parts info3
  obtain ⟨i0, hi, hz0, hz1, hz2⟩ := info_parts info4
  obtain ⟨Z, hZ, hmk⟩ := make_bools 300 300 rfl (by omega)
  have HZ := Lib.hid hZ
  have H1 := Lib.hid hlen1; have HR1 := Lib.hid hr1; have HI1 := Lib.hid hi1
  have H2 := Lib.hid hlen2; have HR2 := Lib.hid hr2; have HI2 := Lib.hid hi2
  clear hlen1 hr1 hZ hi1 hlen2 hr2 hi2
  go_enter Try.func4, Try.ntmps4
  go_wp2_with fail
  refine (Pick_any res0 20 _ (by omega) (by omega) b0.1 b0.2).mono ?_
  rintro e w0 ⟨rfl, rfl⟩
  have hr0 : 0 ≤ res0 % 20 := Int.emod_nonneg _ (by decide)
  have hr1 : res0 % 20 < 20 := Int.emod_lt_of_pos _ (by decide)
  generalize res0 % 20 = res at *
  go_wp2_with fail
  refine (New_any _ res (by omega) (by omega)).mono ?_
  rintro e w1 ⟨⟨sb, bu, bw, rfl, hlo, hS⟩, hb⟩
  have HS := Lib.hid hS
  have HB := Lib.hid hb
  clear hS hb
  go_wp2_with fail
  refine (awake_any _).mono ?_
  rintro e w2 ⟨rfl, hb⟩
  have HS2 := Lib.hid (HS.out.up hb)
  have HB2 := Lib.hid (below_up HB.out hb)
  clear hb HS HB
  have hsb := HS2.out.lt
  have HZ2 := Lib.hid (br_new w2 Z 300 HZ.out _ rfl)
  go_upto_block 0 with (fail)
  go_cut [12] (fun s wr => ∃ (k c : Nat) (A : Option Addr) (L : List Int), k ≤ 60 ∧ s = .slice A k c ∧ OwnI wr (w2.heap.size+1) A k c L ∧ Below w2.heap.size w2 wr ∧ BR wr w2.heap.size 300 (fun j => decide (j ∈ L)) ∧ (∀ v ∈ L, res ≤ v ∧ v < res + 100))
  case first =>
    go_wp2_with fail
    go_loopw [12, 13] (fun s i wr => ∃ (k c : Nat) (A : Option Addr) (L : List Int), k ≤ len1 ∧ k ≤ 60 ∧ s = .slice A k c ∧ i = .int .i64 k ∧ OwnI wr (w2.heap.size+1) A k c L ∧ Below w2.heap.size w2 wr ∧ BR wr w2.heap.size 300 (fun j => decide (j ∈ L)) ∧ (∀ v ∈ L, res ≤ v ∧ v < res + 100)) (fun _ i _ => 60 - (intOf i).toNat)
    case atStart => exact ⟨0, 0, none, [], Nat.zero_le _, Nat.zero_le _, rfl, rfl, OwnI.nil _ _, (Below.refl _ _).alloc (Nat.le_refl _) _, HZ2.out.congr (fun i _ => by simp), fun v hv => by simp at hv⟩
    case round =>
      clear HZ2
      obtain ⟨k, c, A, L, hk, hk2, rfl, rfl, hO, hb, hBR, hL⟩ := hrel
      have HO := Lib.hid hO
      have HB := Lib.hid hb
      have HBR := Lib.hid hBR
      have HL := Lib.hid hL
      clear hO hb hBR hL
      have hsz := HBR.out.1
      by_cases hlt : k < len1
      · by_cases hlt2 : k < 60
        · obtain ⟨s, hs⟩ := get_some l1 k (by rw [H1.out]; exact hlt)
          obtain ⟨b, off, rfl, hblt, hc0⟩ := (HR1.out.below (HB2.out.trans (HB.out.mono HB2.out.size)) (Nat.le_refl _)) k s hs
          obtain ⟨hI0, hI1⟩ := HI1.out s (List.mem_of_getElem? hs)
          go_wp2_with fail
          refine (Pick_any s 100 _ (by omega) (by omega) hI0 hI1).mono ?_
          rintro e w5 ⟨rfl, rfl⟩
          have hn0 : 0 ≤ s % 100 := Int.emod_nonneg _ (by decide)
          have hn1 : s % 100 < 100 := Int.emod_lt_of_pos _ (by decide)
          generalize s % 100 = n at *
          obtain ⟨jn, hjn⟩ : ∃ jn : Nat, res + n = (jn : Int) := ⟨(res + n).toNat, by omega⟩
          have hj300 : jn < 300 := by omega
          have HJ : Hid (res ≤ (jn : Int) ∧ (jn : Int) < res + 100) := Lib.hid ⟨by omega, by omega⟩
          go_wp2_with (at_builtin; refine wpList_append_own _ rfl _ _ 30 rfl (w2.heap.size+1) 3 j0 _ 1 8 (by kernel_rfl) hj hy0 hy1 hy2 rfl (by decide) _ _ _ rfl (HO.out.alloc _).2 ⟨wr.heap.size, 0, none⟩ 1 1 (icells [(jn : Int)]) rfl rfl (newi_one _ _ _ rfl) (icells_one _) (by unfold maxLen; omega) (by omega) (by simp; omega) ?_)
          intro v' w6 hown' hgrow _
          obtain ⟨⟨A2', c2', hv, hown2⟩, _, hb2, _, _⟩ := appI_step HO.out (Below.refl _ _) (by omega) ((Below.refl _ _).alloc (Nat.le_refl _) _) (m := 1) (K := [(jn : Int)]) rfl hown' hgrow
          have hB6 := HBR.out.below hb2 (Nat.lt_succ_self _)
          have q1 := (hB6.2 jn hj300).1
          have q2 := (hB6.2 jn hj300).2
          have HB6 := Lib.hid (hB6.set jn hj300 true)
          have HO6 := Lib.hid hown2
          have HBl : Hid (Below w2.heap.size w2 (w6.setCell ⟨w2.heap.size, jn, none⟩ (.bool true))) := Lib.hid ((HB.out.trans (hb2.mono (by omega))).setCell (Nat.le_refl _) _)
          rw [hv]
          clear hown' hgrow hv hown2 hb2 hB6
          go_wp2_with fail
          go_roundw
          case rel => exact ⟨k+1, c2', A2', L ++ [(jn : Int)], by omega, by omega, rfl, by go_num, ownI_beside HO6.out _ _, HBl.out, HB6.out.congr (fun i _ => by
            by_cases he : (i : Int) = (jn : Int)
            · simp [he]
            · simp [he]), fun v hv => by
              rcases List.mem_append.1 hv with h | h
              · exact HL.out v h
              · simp at h; subst h; exact HJ.out⟩
          case measure => simp [intOf]; omega
        · go_wp2_with fail
          go_meet
          exact ⟨k, c, A, L, hk2, rfl, HO.out, HB.out, HBR.out, HL.out⟩
      · go_wp2_with fail
        go_meet
        exact ⟨k, c, A, L, hk2, rfl, HO.out, HB.out, HBR.out, HL.out⟩
  case rest =>
  clear HZ2
  obtain ⟨k, c, A, L, hk2, rfl, hO, hb, hBR, hL⟩ := hcut
  have hLl : L.length ≤ 60 := by rw [hO.1]; exact hk2
  have hsz := hBR.1
  have HO := Lib.hid hO
  have HB := Lib.hid hb
  have HBR := Lib.hid hBR
  have HL := Lib.hid hL
  have HS3 := Lib.hid (HS2.out.low hb hsb)
  clear hO hb hBR hL
  go_wp2_with fail
  refine (Keep_any _ sb bu bw res _ _ none 0 [] 0 HS3.out A k c L HO.out.1 HO.out.rd (fun b hb => ⟨?_, ?_⟩) (fun v hv => ?_) hr0 (by omega)).mono ?_
  · obtain ⟨g, rfl, hb2⟩ : ∃ g : Addr, A = some g ∧ g.block = b := by
      cases A with
      | none => cases hb
      | some g => exact ⟨g, rfl, by simpa using hb⟩
    have := (HO.out.2.lt b (by rw [← hb2]; rfl)).1
    omega
  · simp
  · have := HL.out v hv; omega
  rintro e w4 ⟨rfl, hS, hb, hKp⟩
  obtain ⟨e1, _⟩ := hKp w2.heap.size hsz hsb (by simp)
  have HBR4 := Lib.hid (HBR.out.kept e1 hb.size)
  have HS4 := Lib.hid hS
  have HB4 := Lib.hid ((HB2.out.trans (HB.out.mono HB2.out.size)).trans (hb.mono hlo))
  clear hS hb hKp e1 HBR HS3 HO HB
  go_upto_block 2 with (fail)
  go_cut [] (fun wr => ∃ (u wt : Int → Bool) (N : Nat), Sp wr sb bu bw res u wt none 0 [] N ∧ N ≤ 100 ∧ BR wr w2.heap.size 300 (fun j => u j || wt j) ∧ Below w.heap.size w wr ∧ ∀ j, (u j || wt j) = true → j ∈ L)
  case first =>
    go_wp2_with fail
    go_loopw [15] (fun i wr => ∃ (k : Nat) (u wt : Int → Bool) (N : Nat), k ≤ len2 ∧ k ≤ 20 ∧ i = .int .i64 k ∧ Sp wr sb bu bw res u wt none 0 [] N ∧ N ≤ 60 + k ∧ BR wr w2.heap.size 300 (fun j => u j || wt j) ∧ Below w.heap.size w wr ∧ ∀ j, (u j || wt j) = true → j ∈ L) (fun i _ => 20 - (intOf i).toNat)
    case atStart => exact ⟨0, _, _, _, Nat.zero_le _, Nat.zero_le _, rfl, HS4.out, by omega, HBR4.out.congr (fun i _ => by simp), HB4.out, fun j hj => by simpa using hj⟩
    case round =>
      clear HS4 HBR4 HB4
      obtain ⟨q, u, wt, N, hq, hq2, rfl, hS, hN, hBR, hb, hin⟩ := hrel
      have HS := Lib.hid hS
      have HBR := Lib.hid hBR
      have HB := Lib.hid hb
      have HI := Lib.hid hin
      clear hS hBR hb hin
      by_cases hlt : q < len2
      · by_cases hlt2 : q < 20
        · obtain ⟨s, hs⟩ := get_some l2 q (by rw [H2.out]; exact hlt)
          obtain ⟨b, off, rfl, hblt, hc0⟩ := (HR2.out.below HB.out (Nat.le_refl _)) q s hs
          obtain ⟨hI0, hI1⟩ := HI2.out s (List.mem_of_getElem? hs)
          go_wp2_with fail
          refine (Pick_any s 200 _ (by omega) (by omega) hI0 hI1).mono ?_
          rintro e w5 ⟨rfl, rfl⟩
          have hn0 : 0 ≤ s % 200 := Int.emod_nonneg _ (by decide)
          have hn1 : s % 200 < 200 := Int.emod_lt_of_pos _ (by decide)
          generalize s % 200 = n at *
          rcases Bool.eq_false_or_eq_true (u n) with hu | hu
          · have HU := Lib.hid hu
            clear hu
            go_wp2_with fail
            refine (Free_yes _ sb bu bw res u wt none 0 [] N HS.out n ⟨by omega, by omega⟩ HU.out (by omega)).mono ?_
            rintro e w6 ⟨rfl, hS, hb, hKp⟩
            obtain ⟨e1, _⟩ := hKp w2.heap.size HBR.out.1 hsb (by simp)
            have HBR6 := Lib.hid (HBR.out.kept e1 hb.size)
            have HS6 := Lib.hid hS
            have HB6 := Lib.hid (HB.out.trans (hb.mono hlo))
            have HE : Hid (∀ j, (upd u n false j || upd wt n true j) = (u j || wt j)) := Lib.hid (fun j => by
              by_cases hj : j = n
              · subst hj; simp [upd, HU.out]
              · simp [upd, hj])
            clear hS hb hKp e1
            go_wp2_with fail
            go_roundw
            case rel => exact ⟨q+1, _, _, _, by omega, by omega, by go_num, HS6.out, by omega, HBR6.out.congr (fun i _ => (HE.out i).symm), HB6.out, fun j hj => HI.out j (by rw [← HE.out j]; exact hj)⟩
            case measure => simp [intOf]; omega
          · have HU := Lib.hid hu
            clear hu
            go_wp2_with fail
            refine (Free_no _ sb bu bw res u wt none 0 [] N HS.out n ⟨by omega, by omega⟩ HU.out).mono ?_
            rintro e w6 ⟨rfl, rfl⟩
            go_wp2_with fail
            go_roundw
            case rel => exact ⟨q+1, _, _, _, by omega, by omega, by go_num, HS.out, by omega, HBR.out, HB.out, HI.out⟩
            case measure => simp [intOf]; omega
        · go_wp2_with fail
          go_meet
          exact ⟨u, wt, N, HS.out, by omega, HBR.out, HB.out, HI.out⟩
      · go_wp2_with fail
        go_meet
        exact ⟨u, wt, N, HS.out, by omega, HBR.out, HB.out, HI.out⟩
  case rest =>
  clear HBR4 HS4 HB4 HL
  obtain ⟨u, wt, N, hS, hN, hBR, hb, hin⟩ := hcut
  have HR : Hid (LeastR w _ sb bu bw w2.heap.size res u wt none 0 [] N L res 0) := Lib.hid ⟨hS, by omega, Nat.le_refl _, by omega, hin, by simp, hsb, hBR, hlo, hb, Int.le_refl _, fun i h0 h1 => by omega⟩
  clear hS hBR hb hin hN hsz
  have hm0 : 0 ≤ n0 % 60 := Int.emod_nonneg _ (by decide)
  have hm1 : n0 % 60 < 60 := Int.emod_lt_of_pos _ (by decide)
  have HP := fun W => Pick_any n0 60 W (by omega) (by omega) b1.1 b1.2
  generalize n0 % 60 = m at *
  obtain ⟨mn, rfl⟩ : ∃ mn : Nat, m = (mn : Int) := ⟨m.toNat, by omega⟩
  go_wp2_with fail
  go_loopw [16, 17] (fun x i wr => ∃ (k c N : Nat) (u wt : Int → Bool) (A : Option Addr) (tk K : List Int) (nx : Int), k ≤ mn + 1 ∧ x = .int .i64 nx ∧ i = .int .i64 k ∧ LeastR w wr sb bu bw w2.heap.size res u wt A c tk N K nx k) (fun _ i _ => 61 - (intOf i).toNat)
  case atStart => exact ⟨0, 0, _, _, _, none, [], _, _, Nat.zero_le _, rfl, rfl, HR.out⟩
  case round =>
    clear HR
    obtain ⟨q, c, N, u, wt, A, tk, K, nx, hq, rfl, rfl, hrel⟩ := hrel
    have HO := Lib.hid hrel
    clear hrel
    by_cases hlt : q < mn + 1
    · go_wp2_with fail
      refine (HP _).mono ?_
      rintro e w5 ⟨rfl, rfl⟩
      obtain ⟨j, hj0, hj1, hjf, hjl⟩ := least_free res (fun j => u j || wt j) K HO.out.inK
      have hK := HO.out.nK
      have hnx : nx ≤ j := by
        by_cases h : nx ≤ j
        · exact h
        · have := HO.out.n1 j hj0 (by omega)
          simp only [hjf] at this
          cases this
      have hn0 := HO.out.n0
      have HF := Lib.hid hjf
      have HL := Lib.hid hjl
      clear hjf hjl
      go_wp2_with fail
      go_loopw [16] (fun x wx => ∃ y : Int, nx ≤ y ∧ y ≤ j ∧ x = .int .i64 y ∧ wr = wx) (fun x _ => (j - intOf x).toNat)
      case atStart => exact ⟨nx, Int.le_refl _, hnx, rfl, rfl⟩
      case round =>
        obtain ⟨y, hy0, hy1, rfl, rfl⟩ := hrel
        obtain ⟨yn, rfl⟩ : ∃ yn : Nat, y = (yn : Int) := ⟨y.toNat, by omega⟩
        have q1 : wr.cell? ⟨w2.heap.size, yn, none⟩ = some (.bool (u yn || wt yn)) := (HO.out.r1.2 yn (by omega)).1
        have q2 := (HO.out.r1.2 yn (by omega)).2
        by_cases hlt2 : (yn : Int) < j
        · rw [show (u yn || wt yn) = true from HL.out yn (by omega) hlt2] at q1
          go_wp2_with fail
          go_roundw
          case rel => exact ⟨yn+1, by omega, by omega, by go_num, trivial⟩
          case measure => simp [intOf]; omega
        · obtain rfl : j = (yn : Int) := by omega
          clear hlt2
          rw [show (u yn || wt yn) = false from HF.out] at q1
          have hfw : u yn = false ∧ wt yn = false := by have := HF.out; simpa using this
          have HFW := Lib.hid hfw
          clear hfw
          go_wp2_with fail
          refine (Take_any _ sb bu bw res u wt _ _ _ _ HO.out.sp yn hr0 hj0 (by omega) HFW.out.1 HFW.out.2 (fun i h0 h1 => by have := HL.out i h0 h1; simpa using this) (by have := HO.out.nN; omega) (by have := HO.out.nt; omega)).mono ?_
          rintro e w5 ⟨rfl, ⟨A5, c5, hS, hKp⟩, hb⟩
          obtain ⟨e1, _⟩ := hKp w2.heap.size HO.out.r1.1 HO.out.s1 HO.out.a1
          have q3 := ((HO.out.r1.kept e1 hb.size).2 yn (by omega)).1
          have q4 := ((HO.out.r1.kept e1 hb.size).2 yn (by omega)).2
          have HT := Lib.hid (HO.out.take yn (by omega) (by omega) HL.out hS hKp hb)
          clear hS hKp hb e1
          go_wp2_with fail
          go_roundw
          case rel => exact ⟨q+1, _, _, _, _, _, _, _, _, by omega, rfl, by go_num, HT.out⟩
          case measure => simp [intOf]; omega
    · obtain rfl : q = mn + 1 := by omega
      go_wp2_with fail
      refine (HP _).mono ?_
      rintro e w5 ⟨rfl, rfl⟩
      go_wp2_with fail
      go_ret
      exact ⟨rfl, HO.out.bl⟩
end Go.Proofs.Ytgpgfjdhlgkhdaa
