/-
  That the law SpaceOnce returns true, for every list of calls.
-/
import Derived.Test.YtgpgfjdhlgkhdaaWalkd
import Derived.Test.YtgpgfjdhlgkhdaaBools
import Derived.Test.YtgpgfjdhlgkhdaaLeast
import Derived.Deep.RegionWith
namespace Go.Proofs.Ytgpgfjdhlgkhdaa
open Go.RowKit
/-- Kind and No of each call of a slice of calls. -/
def RdC (w : World) (B : Nat) (A : Option Addr) (l : List (Int × Int)) : Prop :=
  ∀ k s, l[k]? = some s → ∃ b off, A = some ⟨b, off, none⟩ ∧ b < B ∧ w.cell? ⟨b, off + k * 3, none⟩ = some (.int .i64 s.1) ∧ w.cell? ⟨b, off + k * 3 + 1, none⟩ = some (.int .i64 s.2) ∧ I64 s.1 ∧ I64 s.2
theorem RdC.below {w w' : World} {B B' : Nat} {A : Option Addr} {l : List (Int × Int)} (h : RdC w B A l) (hb : Below B' w w') (hB : B ≤ B') : RdC w' B A l := by
  intro k s hs
  obtain ⟨b, off, e, hb', h0, h1, h2⟩ := h k s hs
  exact ⟨b, off, e, hb', (hb.cell (p := ⟨b, off + k * 3, none⟩) (Nat.lt_of_lt_of_le hb' hB)).trans h0, (hb.cell (p := ⟨b, off + k * 3 + 1, none⟩) (Nat.lt_of_lt_of_le hb' hB)).trans h1, h2⟩
theorem info4 : (Try.prog.info? 4).map (fun i => (i.zero, i.size, i.bytes)) = some (some (.bool false), 1, 1) := by kernel_rfl
/-- 'make([]bool, n)'. -/
theorem make_bools (n : Nat) (N : Int) (hN : N = (n : Int)) (hn : n ≤ 1048576) : ∃ Z : Array Value, (∀ k, k < n → Z[k]? = some (.bool false)) ∧ ∀ W : World, (Instr.makeSlice 29 (.int .i64 N) (.int .i64 N)).run Try.prog W = .ok (.slice (some ⟨W.heap.size, 0, none⟩) n n) (W.alloc (.cells Z 4)) := by
  subst hN
  obtain ⟨i0, hi, hz0, hz1, hz2⟩ := info_parts info4
  refine ⟨madeCells (Value.bool false).cells (n * 1), ?_, fun W => ?_⟩
  · intro k hk
    simp [madeCells, hk, Value.cells, Nat.mod_one]
  · have h := run_makeSlice (P := Try.prog) (w := W) 29 4 i0 (.bool false) (by kernel_rfl) hi hz0 .i64 .i64 (n : Int) (n : Int) (by omega) (by omega) (by rw [hz1]; simp; omega) (by rw [hz2]; omega) (by omega)
    rw [hz1] at h
    simpa using h
theorem br_new (w : World) (Z : Array Value) (n : Nat) (hZ : ∀ k, k < n → Z[k]? = some (.bool false)) (g : Nat) (hg : g = w.heap.size) : BR (w.alloc (.cells Z 4)) g n (fun _ => false) := by
  subst hg
  refine ⟨by simp, fun i hi => ⟨by rw [cell_new]; exact hZ i hi, ?_⟩⟩
  have hh := heap_alloc_new w (.cells Z 4)
  unfold World.frozen?
  rw [hh]
  simp
theorem two_rows (w : World) (Z : Array Value) (n : Nat) (hZ : ∀ k, k < n → Z[k]? = some (.bool false)) :
    BR ((w.alloc (.cells Z 4)).alloc (.cells Z 4)) w.heap.size n (fun _ => false) ∧ BR ((w.alloc (.cells Z 4)).alloc (.cells Z 4)) (w.heap.size + 1) n (fun _ => false) ∧ Below w.heap.size w ((w.alloc (.cells Z 4)).alloc (.cells Z 4)) :=
  ⟨(br_new w Z n hZ _ rfl).alloc _, br_new _ Z n hZ _ (by simp), ((Below.refl _ _).alloc (Nat.le_refl _) _).alloc (by simp) _⟩
theorem Sp.up {w w' : World} {sb bu bw : Nat} {res : Int} {u wt : Int → Bool} {A : Option Addr} {c : Nat} {tk : List Int} {N : Nat} (h : Sp w sb bu bw res u wt A c tk N) (hb : Below w.heap.size w w') : Sp w' sb bu bw res u wt A c tk N := by
  obtain ⟨c0, c1, c2, c3, f3, hu, hw, row, l1, l2, lt⟩ := h
  have hblk := hb.block sb lt
  have hc : ∀ j, w'.cell? ⟨sb, j, none⟩ = w.cell? ⟨sb, j, none⟩ := fun j => World.cell?_of_block (w := w) hblk
  exact ⟨(hc 0).trans c0, (hc 1).trans c1, (hc 2).trans c2, (hc 3).trans c3, (World.frozen?_of_block (w := w) hblk).trans f3, hu.below hb (by omega), hw.below hb (by omega), row.below hb (Nat.le_refl _), l1, l2, Nat.lt_of_lt_of_le lt hb.size⟩
theorem Sp.beside {w w' : World} {sb bu bw g : Nat} {res : Int} {u wt : Int → Bool} {A : Option Addr} {c : Nat} {tk : List Int} {N : Nat} (h : Sp w sb bu bw res u wt A c tk N) (hg : w.grownBy w' (some g)) (hs : sb < g) (ha : A.map Addr.block ≠ some g) : Sp w' sb bu bw res u wt A c tk N := by
  obtain ⟨c0, c1, c2, c3, f3, hu, hw, row, l1, l2, lt⟩ := h
  have hblk : w'.heap[sb]? = w.heap[sb]? := hg.block sb lt (by simp; omega)
  have hc : ∀ j, w'.cell? ⟨sb, j, none⟩ = w.cell? ⟨sb, j, none⟩ := fun j => World.cell?_of_block (w := w) hblk
  refine ⟨(hc 0).trans c0, (hc 1).trans c1, (hc 2).trans c2, (hc 3).trans c3, (World.frozen?_of_block (w := w) hblk).trans f3, hu.kept hg (by simp; omega), hw.kept hg (by simp; omega), ⟨row.1, row.2.kept hg ?_⟩, l1, l2, Nat.lt_of_lt_of_le lt hg.size⟩
  have hA : ∀ B : Option Addr, ∀ q r, (Value.slice B q r).ownBlock = B.map Addr.block := by intro B q r; cases B <;> rfl
  right
  rw [hA]; exact ha
theorem upd_id (u : Int → Bool) (k : Int) : upd u k (u k) = u := by
  funext j
  by_cases h : j = k
  · subst h; simp [upd]
  · simp [upd, h]
/-- What holds ahead of each call. -/
structure OnceR (w wr : World) (sb bu bw g1 g2 : Nat) (res : Int) (u wt : Int → Bool) (A : Option Addr) (c : Nat) (tk : List Int) (N : Nat) (K : List Int) (k : Nat) : Prop where
  sp : Sp wr sb bu bw res u wt A c tk N
  nN : N ≤ 2 * k
  nt : tk.length ≤ k
  nK : K.length ≤ k
  inK : ∀ j, (u j || wt j) = true → j ∈ K
  a1 : A.map Addr.block ≠ some g1
  a2 : A.map Addr.block ≠ some g2
  ne : g1 ≠ g2
  s1 : sb < g1
  s2 : sb < g2
  r1 : BR wr g1 400 u
  r2 : BR wr g2 400 wt
  lo : w.heap.size ≤ bu
  bl : Below w.heap.size w wr
theorem OnceR.take {w wr w' : World} {sb bu bw g1 g2 : Nat} {res : Int} {u wt : Int → Bool} {A A' : Option Addr} {c c' : Nat} {tk : List Int} {N : Nat} {K : List Int} {k : Nat} (h : OnceR w wr sb bu bw g1 g2 res u wt A c tk N K k)
    (j : Nat) (hj : j < 400) (hs : Sp w' sb bu bw res (upd u j true) wt A' c' (tk ++ [(j : Int)]) (N+1)) (hk : Kp wr w' sb A A') (hb : Below bu wr w') : OnceR w (w'.setCell ⟨g1, j, none⟩ (.bool true)) sb bu bw g1 g2 res (upd u j true) wt A' c' (tk ++ [(j : Int)]) (N+1) ((j : Int) :: K) (k+1) := by
  obtain ⟨k1, k2⟩ := hk g1 h.r1.1 h.s1 h.a1
  obtain ⟨k3, k4⟩ := hk g2 h.r2.1 h.s2 h.a2
  have hw1 := h.sp.l1
  have hw2 := h.sp.l2
  have hs1 := h.s1
  refine ⟨hs.beside (grown_setCell _ ⟨g1, j, none⟩ _) h.s1 k2, by have := h.nN; omega, by have := h.nt; simp; omega, by have := h.nK; simp; omega, ?_, k2, k4, h.ne, h.s1, h.s2, (h.r1.kept k1 hb.size).set j hj true, (h.r2.kept k3 hb.size).other j (Ne.symm h.ne) _, h.lo, (h.bl.trans (hb.mono h.lo)).setCell (by have := h.lo; show w.heap.size ≤ g1; omega) _⟩
  intro i hi
  by_cases he : i = (j : Int)
  · simp [he]
  · rw [upd_other _ _ he] at hi
    exact List.mem_cons_of_mem _ (h.inK i hi)
theorem OnceR.settle {w wr w' : World} {sb bu bw g1 g2 : Nat} {res : Int} {u wt : Int → Bool} {A : Option Addr} {c : Nat} {tk : List Int} {N : Nat} {K : List Int} {k : Nat} (h : OnceR w wr sb bu bw g1 g2 res u wt A c tk N K k)
    (hs : Sp w' sb bu bw res u (fun _ => false) none 0 [] N) (hk : Kp wr w' sb A none) (hb : Below bu wr w') (Z : Array Value) (hZ : ∀ k, k < 400 → Z[k]? = some (.bool false)) (g3 : Nat) (hg3 : g3 = w'.heap.size) :
    OnceR w (w'.alloc (.cells Z 4)) sb bu bw g1 g3 res u (fun _ => false) none 0 [] N K (k+1) := by
  subst hg3
  obtain ⟨k1, _⟩ := hk g1 h.r1.1 h.s1 h.a1
  have hw1 := hb.size
  have hr := h.r1.1
  have hlo := h.lo
  have hlt := hs.lt
  have hl1 := hs.l1
  have hl2 := hs.l2
  refine ⟨hs.up ((Below.refl _ _).alloc (Nat.le_refl _) _), by have := h.nN; omega, Nat.zero_le _, by have := h.nK; omega, fun j hj => h.inK j (by simp at hj; simp [hj]), by simp, by simp, by omega, h.s1, by omega, (h.r1.kept k1 hb.size).alloc _, br_new _ _ _ hZ _ rfl, h.lo, (h.bl.trans (hb.mono h.lo)).alloc (by omega) _⟩
theorem OnceR.free {w wr w' : World} {sb bu bw g1 g2 : Nat} {res : Int} {u wt : Int → Bool} {A : Option Addr} {c : Nat} {tk : List Int} {N N' : Nat} {K : List Int} {k : Nat} (h : OnceR w wr sb bu bw g1 g2 res u wt A c tk N K k)
    (j : Nat) (hj : j < 400) (hs : Sp w' sb bu bw res (upd u j false) (upd wt j (wt j || u j)) A c tk N') (hN : N' ≤ N + 1) (hk : Kp wr w' sb A A) (hb : Below bu wr w') : OnceR w ((w'.setCell ⟨g2, j, none⟩ (.bool (wt j || u j))).setCell ⟨g1, j, none⟩ (.bool false)) sb bu bw g1 g2 res (upd u j false) (upd wt j (wt j || u j)) A c tk N' K (k+1) := by
  obtain ⟨k1, k2⟩ := hk g1 h.r1.1 h.s1 h.a1
  obtain ⟨k3, k4⟩ := hk g2 h.r2.1 h.s2 h.a2
  have hw1 := h.sp.l1
  have hw2 := h.sp.l2
  have hs1 := h.s1
  have hs2 := h.s2
  have hlo := h.lo
  refine ⟨(hs.beside (grown_setCell _ ⟨g2, j, none⟩ _) h.s2 k4).beside (grown_setCell _ ⟨g1, j, none⟩ _) h.s1 k2, by have := h.nN; omega, by have := h.nt; omega, by have := h.nK; omega, ?_, k2, k4, h.ne, h.s1, h.s2, ((h.r1.kept k1 hb.size).other j h.ne _).set j hj false, ((h.r2.kept k3 hb.size).set j hj _).other j (Ne.symm h.ne) _, h.lo, ((h.bl.trans (hb.mono h.lo)).setCell (by show w.heap.size ≤ g2; omega) _).setCell (by show w.heap.size ≤ g1; omega) _⟩
  intro i hi
  by_cases he : i = (j : Int)
  · subst he
    refine h.inK _ ?_
    simp [upd] at hi
    simp [hi]
    rcases hi with hi | hi <;> simp [hi]
  · rw [upd_other _ _ he, upd_other _ _ he] at hi
    exact h.inK i hi
theorem OnceR.idle {w wr : World} {sb bu bw g1 g2 : Nat} {res : Int} {u wt : Int → Bool} {A : Option Addr} {c : Nat} {tk : List Int} {N : Nat} {K : List Int} {k : Nat} (h : OnceR w wr sb bu bw g1 g2 res u wt A c tk N K k) : OnceR w wr sb bu bw g1 g2 res u wt A c tk N K (k+1) :=
  ⟨h.sp, by have := h.nN; omega, by have := h.nt; omega, by have := h.nK; omega, h.inK, h.a1, h.a2, h.ne, h.s1, h.s2, h.r1, h.r2, h.lo, h.bl⟩
/-- Behind Free and the look at held, in any order. -/
structure Mid (wr wx : World) (sb bu bw jn : Nat) (res : Int) (u wt : Int → Bool) (A : Option Addr) (c : Nat) (tk : List Int) (N N' : Nat) : Prop where
  sp : Sp wx sb bu bw res (upd u jn false) (upd wt jn (wt jn || u jn)) A c tk N'
  nN : N' ≤ N + 1
  kp : Kp wr wx sb A A
  bl : Below bu wr wx
theorem Mid.drewN {wr wx : World} {sb bu bw jn : Nat} {res : Int} {u wt : Int → Bool} {A : Option Addr} {c : Nat} {tk : List Int} {N N' : Nat} (h : Mid wr wx sb bu bw jn res u wt A c tk N N') (n : Nat) : Mid wr (wx.drewN n) sb bu bw jn res u wt A c tk N N' :=
  ⟨h.sp.up (belowDrewN (Below.refl _ _) n), h.nN, h.kp, belowDrewN h.bl n⟩
theorem mid_yes {wr wx : World} {sb bu bw jn : Nat} {res : Int} {u wt : Int → Bool} {A : Option Addr} {c : Nat} {tk : List Int} {N : Nat} (hu : u jn = true) (hs : Sp wx sb bu bw res (upd u jn false) (upd wt jn true) A c tk (N+1)) (hk : Kp wr wx sb A A) (hb : Below bu wr wx) : Mid wr wx sb bu bw jn res u wt A c tk N (N+1) :=
  ⟨by rw [hu, Bool.or_true]; exact hs, Nat.le_refl _, hk, hb⟩
theorem mid_no {wr : World} {sb bu bw jn : Nat} {res : Int} {u wt : Int → Bool} {A : Option Addr} {c : Nat} {tk : List Int} {N : Nat} (hu : u jn = false) (hs : Sp wr sb bu bw res u wt A c tk N) : Mid wr wr sb bu bw jn res u wt A c tk N N :=
  ⟨by rw [hu, Bool.or_false, upd_id, ← hu, upd_id]; exact hs, Nat.le_succ _, Kp.refl _ _ _, Below.refl _ _⟩
theorem once_at {w w' : World} {sb bu bw g1 g2 jn : Nat} {res : Int} {u wt : Int → Bool} {A : Option Addr} {c : Nat} {tk : List Int} {N : Nat} {K : List Int} {k : Nat} {x y : Bool} (h : OnceR w ((w'.setCell ⟨g2, jn, none⟩ (.bool (wt jn || u jn))).setCell ⟨g1, jn, none⟩ (.bool false)) sb bu bw g1 g2 res (upd u jn false) (upd wt jn (wt jn || u jn)) A c tk N K k) (hx : wt jn = x) (hy : u jn = y) :
    OnceR w ((w'.setCell ⟨g2, jn, none⟩ (.bool (x || y))).setCell ⟨g1, jn, none⟩ (.bool false)) sb bu bw g1 g2 res (upd u jn false) (upd wt jn (x || y)) A c tk N K k := by
  subst hx; subst hy; exact h
set_option maxRecDepth 20000 in
set_option maxHeartbeats 1000000 in
theorem once_walk (res0 : Int) (A : Option Addr) (len cap : Nat) (w : World) (l : List (Int × Int)) (hlen : l.length = len) (hr : RdC w w.heap.size A l) (b0 : -9223372036854775808 ≤ res0) (b1 : res0 ≤ 9223372036854775807) :
    Calls Try.prog 3 #[.int .i64 res0, .slice A len cap] w fun e w' => e = .returned (.bool true) ∧ Below w.heap.size w w' := by
  obtain ⟨i0, hi, hz0, hz1, hz2⟩ := info_parts info4
  obtain ⟨Z, hZ, hmk⟩ := make_bools 400 400 rfl (by omega)
  have HZ := Lib.hid hZ
  have H := Lib.hid hlen; have HR := Lib.hid hr
  clear hlen hr hZ
  go_enter Try.func3, Try.ntmps3
  go_wp2_with fail
  refine (Pick_any res0 50 _ (by omega) (by omega) b0 b1).mono ?_
  rintro e w0 ⟨rfl, rfl⟩
  have hr0 : 0 ≤ res0 % 50 := Int.emod_nonneg _ (by decide)
  have hr1 : res0 % 50 < 50 := Int.emod_lt_of_pos _ (by decide)
  generalize res0 % 50 = res at *
  go_wp2_with fail
  refine (New_any _ res (by omega) (by omega)).mono ?_
  rintro e w1 ⟨⟨sb, bu, bw, rfl, hlo, hS⟩, hb⟩
  have HS := Lib.hid hS
  have HB := Lib.hid hb
  clear hS hb
  go_wp2_with fail
  refine (awake_any _).mono ?_
  rintro e w2 ⟨rfl, hb⟩
  have HA := Lib.hid hb
  clear hb
  go_wp2_with fail
  go_cut [7, 8] (fun h v wx => ∃ g1 g2, h = .slice (some ⟨g1, 0, none⟩) 400 400 ∧ v = .slice (some ⟨g2, 0, none⟩) 400 400 ∧ g1 ≠ g2 ∧ w2.heap.size ≤ g1 ∧ w2.heap.size ≤ g2 ∧ BR wx g1 400 (fun _ => false) ∧ BR wx g2 400 (fun _ => false) ∧ Below w2.heap.size w2 wx)
  case first =>
    go_region
    all_goals go_wp2_with fail
    all_goals go_meet
    all_goals
      have h3 := two_rows w2 Z 400 HZ.out
      first | exact ⟨w2.heap.size, w2.heap.size + 1, rfl, rfl, by omega, Nat.le_refl _, by omega, h3.1, h3.2.1, belowDrewN h3.2.2 1⟩ | exact ⟨w2.heap.size + 1, w2.heap.size, rfl, rfl, by omega, by omega, Nat.le_refl _, h3.2.1, h3.1, belowDrewN h3.2.2 1⟩
  case rest =>
  obtain ⟨g1, g2, rfl, rfl, hne, hg1, hg2, hr1, hr2, hb⟩ := hcut
  have hsb := HS.out.lt
  have hA := HA.out.size
  have hR0 : OnceR w _ sb bu bw g1 g2 res (fun _ => false) (fun _ => false) none 0 [] 0 [] 0 := ⟨(HS.out.up HA.out).up hb, Nat.le_refl _, Nat.le_refl _, Nat.le_refl _, fun j h => by simp at h, by simp, by simp, hne, by omega, by omega, hr1, hr2, hlo, below_up (below_up HB.out HA.out) hb⟩
  have HR0 := Lib.hid hR0
  clear hR0 hr1 hr2 hb HS HB HA hne hg1 hg2
  go_wp2_with fail
  go_loopw [8, 9] (fun v i wr => ∃ (k g2 : Nat) (u wt : Int → Bool) (A' : Option Addr) (c N : Nat) (tk K : List Int), k ≤ len ∧ k ≤ 200 ∧ v = .slice (some ⟨g2, 0, none⟩) 400 400 ∧ i = .int .i64 k ∧ OnceR w wr sb bu bw g1 g2 res u wt A' c tk N K k) (fun _ i _ => 200 - (intOf i).toNat)
  case atStart => exact ⟨0, g2, _, _, none, 0, 0, [], [], Nat.zero_le _, Nat.zero_le _, rfl, rfl, HR0.out⟩
  case round =>
    clear HR0
    obtain ⟨k, g2, u, wt, A', c, N, tk, K, hk, hk2, rfl, rfl, hrel⟩ := hrel
    have HO := Lib.hid hrel
    clear hrel
    by_cases hlt : k < len
    · by_cases hlt2 : k < 200
      · obtain ⟨s, hs⟩ := get_some l k (by rw [H.out]; exact hlt)
        obtain ⟨b, off, rfl, hblt, hc0, hc1, hi0, hi1⟩ := HR.out k s hs
        have d0 := (HO.out.bl.cell (p := ⟨b, off + k * 3, none⟩) hblt).trans hc0
        have d1 := (HO.out.bl.cell (p := ⟨b, off + k * 3 + 1, none⟩) hblt).trans hc1
        clear hc0 hc1
        obtain ⟨kd, no⟩ := s
        by_cases hk1 : kd = 1
        · subst hk1
          obtain ⟨j, hj0, hj1, hjf, hjl⟩ := least_free res (fun j => u j || wt j) K HO.out.inK
          obtain ⟨jn, rfl⟩ : ∃ jn : Nat, j = (jn : Int) := ⟨j.toNat, by omega⟩
          have hK := HO.out.nK
          simp at hjf
          have HF := Lib.hid hjf
          have HL := Lib.hid hjl
          clear hjf hjl
          go_wp2_with fail
          refine (Take_any _ sb bu bw res u wt _ _ _ _ HO.out.sp jn hr0 hj0 (by omega) HF.out.1 HF.out.2 (fun i h0 h1 => by have := HL.out i h0 h1; simpa using this) (by have := HO.out.nN; omega) (by have := HO.out.nt; omega)).mono ?_
          rintro e w5 ⟨rfl, ⟨A5, c5, hS, hKp⟩, hb⟩
          obtain ⟨e1, _⟩ := hKp g1 HO.out.r1.1 HO.out.s1 HO.out.a1
          obtain ⟨e2, _⟩ := hKp g2 HO.out.r2.1 HO.out.s2 HO.out.a2
          have q1 := ((HO.out.r1.kept e1 hb.size).2 jn (by omega)).1
          have q2 := ((HO.out.r2.kept e2 hb.size).2 jn (by omega)).1
          have q3 := ((HO.out.r1.kept e1 hb.size).2 jn (by omega)).2
          rw [HF.out.1] at q1
          rw [HF.out.2] at q2
          have HT := Lib.hid (HO.out.take jn (by omega) hS hKp hb)
          clear hS hKp hb e1 e2
          go_wp2_with fail
          go_roundw
          case rel => exact ⟨k+1, g2, _, _, _, _, _, _, _, by omega, by omega, rfl, by go_num, HT.out⟩
          case measure => simp [intOf]; omega
        · by_cases hk2' : kd = 2
          · subst hk2'
            go_wp2_with fail
            refine (Pick_any no 400 _ (by omega) (by omega) hi1.1 hi1.2).mono ?_
            rintro e w0 ⟨rfl, rfl⟩
            have hn0 : 0 ≤ no % 400 := Int.emod_nonneg _ (by decide)
            have hn1 : no % 400 < 400 := Int.emod_lt_of_pos _ (by decide)
            generalize no % 400 = n at *
            obtain ⟨jn, rfl⟩ : ∃ jn : Nat, n = (jn : Int) := ⟨n.toNat, by omega⟩
            have q1 := (HO.out.r1.2 jn (by omega)).1
            have q2 := (HO.out.r2.2 jn (by omega)).1
            have q3 := (HO.out.r1.2 jn (by omega)).2
            have q4 := (HO.out.r2.2 jn (by omega)).2
            go_wp2_with fail
            go_cut [92] (fun t wx => t = .bool false ∧ ∃ N', Mid wr wx sb bu bw jn res u wt A' c tk N N')
            case first =>
              clear q2 q4
              rcases Bool.eq_false_or_eq_true (u jn) with hu | hu
              · rw [hu] at q1
                have HU := Lib.hid hu
                clear hu
                go_region_with (go_at_call 9; refine (Free_yes _ sb bu bw res u wt A' c tk N (HO.out.sp.up ?_) jn ⟨?_, ?_⟩ HU.out ?_).mono ?_; rotate_left 4; (rintro e w5 ⟨rfl, hS, hb, hKp⟩; have q5 := ((HO.out.r1.kept (hKp g1 HO.out.r1.1 HO.out.s1 HO.out.a1).1 hb.size).2 jn (by omega)).1; rw [HU.out] at q5; have HM := Lib.hid (mid_yes (wr := wr) HU.out hS hKp ((belowDrewN (Below.refl bu wr) 1).trans hb)); clear hS hKp hb); rotate_left 1; exact belowDrewN (Below.refl _ _) 1; omega; omega; (have := HO.out.nN; omega))
                all_goals
                  go_wp2_with fail
                  go_meet

                  exact ⟨rfl, _, HM.out⟩
              · rw [hu] at q1
                have HU := Lib.hid hu
                have HM : Hid (Mid wr wr sb bu bw jn res u wt A' c tk N N) := Lib.hid (mid_no hu HO.out.sp)
                clear hu
                go_region_with (go_at_call 9; refine (Free_no _ sb bu bw res u wt A' c tk N (HO.out.sp.up ?_) jn ⟨?_, ?_⟩ HU.out).mono ?_; rotate_left 3; (rintro e w5 ⟨rfl, rfl⟩); rotate_left 1; exact belowDrewN (Below.refl _ _) 1; omega; omega)
                all_goals
                  go_wp2_with fail
                  go_meet
                  exact ⟨rfl, _, HM.out.drewN 1⟩
            case rest =>
            clear q1 q3 q4
            obtain ⟨rfl, N', hm⟩ := hcut
            obtain ⟨e1, _⟩ := hm.kp g1 HO.out.r1.1 HO.out.s1 HO.out.a1
            obtain ⟨e2, _⟩ := hm.kp g2 HO.out.r2.1 HO.out.s2 HO.out.a2
            have q1 := ((HO.out.r1.kept e1 hm.bl.size).2 jn (by omega)).1
            have q2 := ((HO.out.r2.kept e2 hm.bl.size).2 jn (by omega)).1
            have q3 := ((HO.out.r1.kept e1 hm.bl.size).2 jn (by omega)).2
            have q4 := ((HO.out.r2.kept e2 hm.bl.size).2 jn (by omega)).2
            have HT := Lib.hid (HO.out.free jn (by omega) hm.sp hm.nN hm.kp hm.bl)
            have hne := HO.out.ne
            clear hm e1 e2
            rcases Bool.eq_false_or_eq_true (wt jn) with hw | hw <;> rcases Bool.eq_false_or_eq_true (u jn) with hu | hu
            all_goals
              rw [hu] at q1
              rw [hw] at q2
              have HT' := Lib.hid (once_at HT.out hw hu)
              clear HT hw hu
              go_wp2_with fail
              go_roundw
              case rel => exact ⟨k+1, g2, _, _, _, _, _, _, _, by omega, by omega, rfl, by go_num, HT'.out⟩
              case measure => simp [intOf]; omega
          · by_cases hk3 : kd = 3
            · subst hk3
              go_wp2_with fail
              refine (Settle_any _ sb bu bw res u wt _ _ _ _ HO.out.sp).mono ?_
              rintro e w5 ⟨rfl, hS, hb, hKp⟩
              have HT := Lib.hid (HO.out.settle hS hKp hb Z HZ.out _ rfl)
              clear hS hb hKp
              go_wp2_with fail
              go_roundw
              case rel => exact ⟨k+1, _, _, _, _, _, _, _, _, by omega, by omega, rfl, by go_num, HT.out⟩
              case measure => simp [intOf]; omega
            · go_wp2_with fail
              go_roundw
              case rel => exact ⟨k+1, g2, _, _, _, _, _, _, _, by omega, by omega, rfl, by go_num, HO.out.idle⟩
              case measure => simp [intOf]; omega
      · go_wp2_with fail
        go_ret
        exact ⟨rfl, HO.out.bl⟩
    · go_wp2_with fail
      go_ret
      exact ⟨rfl, HO.out.bl⟩
end Go.Proofs.Ytgpgfjdhlgkhdaa
