/-
  What the superblock's Open answers.
-/
import Derived.Test.YtblibmalommdkaaGreatUMay
import Derived.Deep.RegionHeld3
namespace Go.Proofs.YtblibmalommdkaaGreat.Re
open Go.RowKit
theorem rdr_setS {w : World} {rb n c a : Nat} {A : Option Addr} {l : List Int} (h : Rdr w rb A n c a l) (p : Addr) (v : Value) (hp : rb < p.block) : Rdr (w.setCell p v) rb A n c a l := by
  have key : ∀ q : Addr, q.block ≤ rb → (w.setCell p v).cell? q = w.cell? q := fun q hq => World.cell?_setCell_other _ _ _ _ (by intro e; rw [← e] at hq; omega)
  exact ⟨(key _ (Nat.le_refl _)).trans h.c0, (key _ (Nat.le_refl _)).trans h.c1, (World.frozen?_setCell _ _ _ _).trans h.f1, h.rd.keep fun q hq => key q (Nat.le_of_lt hq), h.len, h.cap, by simpa using h.lt⟩
def outS (l : List Int) : Sup × Int := if leVal (l.drop 60) ≠ (crcOf (l.take 60) : Int) then (sup0, 5) else if formS (l.take 60) = true then (supOf (l.take 60), 0) else (sup0, 4)
theorem str_ofS (w : World) (a : Addr) (n c : Nat) (q : List Int) (hl : q.length = n) (hy : Bytes q) (hr : ∀ j u, (bcells q)[j]? = some u → w.cell? (a.add j) = some u) :
    ∃ S : ByteArray, (convert 22 9 (.slice (some a) n c)).run Tryz.prog w = .ok (.string S) w ∧ (S.toList = [111, 99, 116, 97, 118, 111, 48, 49] ↔ q = lettersS) := by
  have hlu : (toU8 q).length = n := by simp [toU8, hl]
  have hrun := run_convert_bytes_back (P := Tryz.prog) w 22 9 5 a c (toU8 q) Tryz.underlying22 Tryz.underlying5 Tryz.underlying9 (fun j hj => by
    refine hr j _ ?_
    rw [bcells_get]
    have e : q[j]? = some (((toU8 q)[j]).toNat : Int) := by
      have h2 : ((toU8 q).map (fun b => (b.toNat : Int)))[j]? = some (((toU8 q)[j]).toNat : Int) := by
        rw [List.getElem?_map, List.getElem?_eq_getElem hj]; rfl
      rw [toU8_back q hy] at h2
      exact h2
    rw [e]; rfl)
  rw [hlu] at hrun
  refine ⟨_, hrun, ?_⟩
  rw [ByteArray.toList_mk]
  constructor
  · intro h2
    have h3 := toU8_back q hy
    rw [h2] at h3
    rw [← h3]; rfl
  · intro h
    subst h
    rfl
set_option maxRecDepth 100000 in
set_option maxHeartbeats 8000000 in
theorem OpenS_any (b off c : Nat) (w : World) (l : List Int) (hl : l.length = 64) (hr : RdB w w.heap.size (some ⟨b, off, none⟩) l) (hy : Bytes l) (hc0 : 64 ≤ c) (hc : c ≤ 9223372036854775807) :
    Calls Tryz.prog 24 #[.slice (some ⟨b, off, none⟩) 64 c] w fun e w' => e = .returned (.tuple #[.agg (outS l).1.cells, .int .i64 (outS l).2]) ∧ Below w.heap.size w w' := by
  have hq : (l.take 60).length = 60 := by rw [List.length_take, hl]; rfl
  have hyq := bytes_take hy 60
  have hrq : RdB w w.heap.size (some ⟨b, off, none⟩) (l.take 60) := by simpa using hr.piece 0 60
  have hrs : RdB w w.heap.size (some ⟨b, off + 60, none⟩) (l.drop 60) := by
    have := hr.piece 60 4
    rwa [List.take_of_length_le (by rw [List.length_drop, hl]; omega)] at this
  have HQ := Lib.hid hq; have HYQ := Lib.hid hyq; have HRQ := Lib.hid hrq; have HRS := Lib.hid hrs
  have HYS := Lib.hid (bytes_drop hy 60)
  have HLS : Hid ((l.drop 60).length = 4) := Lib.hid (by rw [List.length_drop, hl])
  have hcr := crcOf_lt hyq
  have HE : Hid (outS l = if leVal (l.drop 60) ≠ (crcOf (l.take 60) : Int) then (sup0, 5) else if formS (l.take 60) = true then (supOf (l.take 60), 0) else (sup0, 4)) := Lib.hid rfl
  clear hq hyq hrq hrs hl hr hy
  generalize outS l = res at *
  have hwr : IntKind.i64.wrap (crcOf (l.take 60) : Int) = crcOf (l.take 60) := by rw [IntKind.wrap_i64]; omega
  go_enter Tryz.func24, Tryz.ntmps24
  go_wp2_with fail
  generalize hz : w.alloc (.cells #[.int .i64 0, .int .i64 0, .int .i64 0, .int .i64 0, .int .i64 0] 26) = wz at *
  have HBz : Hid (Below w.heap.size w wz) := Lib.hid (by rw [← hz]; exact (Below.refl _ _).alloc (Nat.le_refl _) _)
  have HSz : Hid (wz.heap.size = w.heap.size + 1) := Lib.hid (by rw [← hz]; simp)
  have HCz : Hid (wz.heap[w.heap.size]? = some (.cells #[.int .i64 0, .int .i64 0, .int .i64 0, .int .i64 0, .int .i64 0] 26 (0, 0))) := Lib.hid (by rw [← hz]; exact heap_alloc_new w _)
  clear hz
  have HX := Lib.hid (leVal_lt4 (l.drop 60) HYS.out (by rw [HLS.out]; exact Nat.le_refl _))
  refine (Int_any _ 4 (c - 60) wz _ HLS.out (HRS.out.up HBz.out) HYS.out (by omega) (by omega)).mono ?_
  rintro e w1 ⟨rfl, rfl⟩
  generalize leVal (l.drop 60) = x at *
  have HCC : Hid (∀ o : Obj, o = .cells #[.slice (some ⟨b, off, none⟩) 60 c] 22 → (wz.alloc o).cell? ⟨wz.heap.size, 0, none⟩ = some (.slice (some ⟨b, off, none⟩) 60 c)) := Lib.hid (fun o ho => by subst ho; rw [cell_new]; rfl)
  go_wp2_with fail
  refine (crc_any wz.heap.size 1 (some ⟨b, off, none⟩) 60 c _ (l.take 60) HQ.out (((HRQ.out.up HBz.out)).up ((Below.refl _ _).alloc (Nat.le_refl _) _)) HYQ.out (by omega) (HCC.out _ rfl)).mono ?_
  rintro e w2 ⟨rfl, rfl⟩
  generalize hyy : wz.alloc (.cells #[.slice (some ⟨b, off, none⟩) 60 c] 22) = wy at *
  have hbz : Below wz.heap.size wz wy := by rw [← hyy]; exact (Below.refl _ _).alloc (Nat.le_refl _) _
  have hzlt : w.heap.size < wz.heap.size := by rw [HSz.out]; omega
  have HBy : Hid (Below w.heap.size w wy) := Lib.hid (HBz.out.trans (hbz.mono (by omega)))
  have HCy : Hid (wy.heap[w.heap.size]? = some (.cells #[.int .i64 0, .int .i64 0, .int .i64 0, .int .i64 0, .int .i64 0] 26 (0, 0))) := Lib.hid ((hbz.block _ hzlt).trans HCz.out)
  have hylt : w.heap.size < wy.heap.size := Nat.lt_of_lt_of_le hzlt hbz.size
  clear HCz HBz HSz HCC hyy hbz hzlt
  generalize l.take 60 = q at *
  generalize crcOf q = y at *
  by_cases hxy : x = (y : Int)
  · have E : Hid (res = if formS q = true then (supOf q, 0) else (sup0, 4)) := Lib.hid (by rw [HE.out, if_neg (by simpa using hxy)])
    clear HE
    subst hxy
    go_wp2_with fail
    refine (On_any _ b off 60 c q HQ.out (HRQ.out.up HBy.out) (by omega) (by omega)).mono ?_
    rintro e w3 ⟨⟨rb, A3, c3, rfl, hR, hc3, hrb⟩, hb⟩
    have HR3 := Lib.hid hR
    have HB3 := Lib.hid hb
    clear hR hb
    go_wp2_with fail
    refine (Take_any _ rb 60 c3 0 A3 q HR3.out (by omega) hc3 8 (by omega) (by omega)).mono ?_
    rintro e w4 ⟨⟨g, c4, rfl, hO⟩, hR, hg4⟩
    have HO4 := Lib.hid hO
    have hgl : w3.heap.size ≤ g ∧ g < w4.heap.size := hO.base_le
    have hrl : rb < w3.heap.size := HR3.out.lt
    have hg3 : w3.heap.size ≤ w4.heap.size := hg4.size
    have hyl3 : wy.heap.size ≤ w3.heap.size := HB3.out.size
    have HC4 : Hid (w4.heap[w.heap.size]? = some (.cells #[.int .i64 0, .int .i64 0, .int .i64 0, .int .i64 0, .int .i64 0] 26 (0, 0))) := Lib.hid ((hg4.block w.heap.size (by omega) (by simp; omega)).trans ((HB3.out.block _ (by omega)).trans HCy.out))
    have HB4 : Hid (Below w.heap.size w w4) := Lib.hid ((HBy.out.trans (HB3.out.mono (by omega))).grown hg4 (by omega) (fun k h => by injection h with h; omega))
    have HR4 := Lib.hid hR
    clear hO hR hg4 HR3
    go_upto_region 10 with (fail)
    obtain ⟨sb, hsb⟩ : ∃ sb, w4.heap.size = sb := ⟨_, rfl⟩
    rw [hsb]
    have hW0 : ∀ W, W = (w4.alloc (.cells #[.int .i64 0, .int .i64 0, .int .i64 0, .int .i64 0, .int .i64 0] 26)).alloc (.cells #[.pointer (some ⟨sb, 0, none⟩), .pointer (some ⟨sb, 1, none⟩), .pointer (some ⟨sb, 2, none⟩), .pointer (some ⟨sb, 3, none⟩), .pointer (some ⟨sb, 4, none⟩)] 94) → W.heap[sb]? = some (.cells #[.int .i64 0, .int .i64 0, .int .i64 0, .int .i64 0, .int .i64 0] 26 (0, 0)) ∧ W.heap[sb + 1]? = some (.cells #[.pointer (some ⟨sb, 0, none⟩), .pointer (some ⟨sb, 1, none⟩), .pointer (some ⟨sb, 2, none⟩), .pointer (some ⟨sb, 3, none⟩), .pointer (some ⟨sb, 4, none⟩)] 94 (0, 0)) ∧ Below sb w4 W ∧ W.heap.size = sb + 2 := fun W hW => by
      subst hW
      refine ⟨(heap_alloc_old _ _ (by simp; omega)).trans (by rw [← hsb]; exact heap_alloc_new w4 _), ?_, by rw [← hsb]; exact ((Below.refl w4.heap.size w4).alloc (Nat.le_refl _) _).alloc (by simp) _, by simp; omega⟩
      have := heap_alloc_new (w4.alloc (.cells #[.int .i64 0, .int .i64 0, .int .i64 0, .int .i64 0, .int .i64 0] 26)) (.cells #[.pointer (some ⟨sb, 0, none⟩), .pointer (some ⟨sb, 1, none⟩), .pointer (some ⟨sb, 2, none⟩), .pointer (some ⟨sb, 3, none⟩), .pointer (some ⟨sb, 4, none⟩)] 94)
      simpa [hsb] using this
    have hW0' := hW0 _ rfl
    clear hW0
    generalize (w4.alloc (.cells #[.int .i64 0, .int .i64 0, .int .i64 0, .int .i64 0, .int .i64 0] 26)).alloc (.cells #[.pointer (some ⟨sb, 0, none⟩), .pointer (some ⟨sb, 1, none⟩), .pointer (some ⟨sb, 2, none⟩), .pointer (some ⟨sb, 3, none⟩), .pointer (some ⟨sb, 4, none⟩)] 94) = w5 at *
    obtain ⟨r0, r1, hb5, hs5⟩ := hW0'
    have HW := Lib.hid r0; have HA := Lib.hid r1
    have z0 : w5.cell? ⟨sb, 0, none⟩ = some (.int .i64 0) := cell_of_row _ _ 0 _ 26 (0, 0) r0
    have z1 : w5.cell? ⟨sb, 1, none⟩ = some (.int .i64 0) := cell_of_row _ _ 1 _ 26 (0, 0) r0
    have z2 : w5.cell? ⟨sb, 2, none⟩ = some (.int .i64 0) := cell_of_row _ _ 2 _ 26 (0, 0) r0
    have z3 : w5.cell? ⟨sb, 3, none⟩ = some (.int .i64 0) := cell_of_row _ _ 3 _ 26 (0, 0) r0
    have z4 : w5.cell? ⟨sb, 4, none⟩ = some (.int .i64 0) := cell_of_row _ _ 4 _ 26 (0, 0) r0
    have hFL := fields_any sup0 w5
    unfold sup0 Sup.cells at hFL
    simp only at hFL
    rw [← hsb] at hb5
    have HR5 := Lib.hid (HR4.out.grown hb5)
    have HO5 := Lib.hid (HO4.out.below hb5 (Nat.le_refl _))
    have HC5 := Lib.hid ((hb5.block w.heap.size (by omega)).trans HC4.out)
    have HB5 := Lib.hid (HB4.out.trans (hb5.mono (by omega)))
    clear r0 r1 HR4 HO4 HC4 HB4 hb5
    go_wp2_with fail
    refine hFL.mono ?_
    rintro e w6 ⟨rfl, rfl⟩
    have hF : ∀ W, W = (w5.alloc (.cells #[.int .i64 0, .int .i64 0, .int .i64 0, .int .i64 0, .int .i64 0] 26)).alloc (.cells #[.int .i64 0, .int .i64 6, .int .i64 0, .int .i64 4, .int .i64 0, .int .i64 1, .int .i64 0, .int .i64 4, .int .i64 0, .int .i64 4] 98) → W.heap[sb + 3]? = some (.cells #[.int .i64 0, .int .i64 6, .int .i64 0, .int .i64 4, .int .i64 0, .int .i64 1, .int .i64 0, .int .i64 4, .int .i64 0, .int .i64 4] 98 (0, 0)) ∧ Below (sb + 2) w5 W ∧ W.heap.size = sb + 4 := fun W hW => by
      subst hW
      refine ⟨?_, by rw [← hs5]; exact ((Below.refl w5.heap.size w5).alloc (Nat.le_refl _) _).alloc (by simp) _, by simp; omega⟩
      have := heap_alloc_new (w5.alloc (.cells #[.int .i64 0, .int .i64 0, .int .i64 0, .int .i64 0, .int .i64 0] 26)) (.cells #[.int .i64 0, .int .i64 6, .int .i64 0, .int .i64 4, .int .i64 0, .int .i64 1, .int .i64 0, .int .i64 4, .int .i64 0, .int .i64 4] 98)
      simpa [hs5] using this
    have hF' := hF _ rfl
    clear hF hFL z0 z1 z2 z3 z4
    have hs5' : w5.heap.size + 1 = sb + 3 := by omega
    rw [hs5']
    go_wp2_with fail
    generalize (w5.alloc (.cells #[.int .i64 0, .int .i64 0, .int .i64 0, .int .i64 0, .int .i64 0] 26)).alloc (.cells #[.int .i64 0, .int .i64 6, .int .i64 0, .int .i64 4, .int .i64 0, .int .i64 1, .int .i64 0, .int .i64 4, .int .i64 0, .int .i64 4] 98) = w7 at *
    obtain ⟨r3, hb7, hs7⟩ := hF'
    have HR7 := Lib.hid (HR5.out.grown (by rw [hs5]; exact hb7))
    have HO7 := Lib.hid (HO5.out.below hb7 (by omega))
    have HC7 := Lib.hid ((hb7.block w.heap.size (by omega)).trans HC5.out)
    have HB7 := Lib.hid (HB5.out.trans (hb7.mono (by omega)))
    have HW7 := Lib.hid ((hb7.block sb (by omega)).trans HW.out)
    have HA7 := Lib.hid ((hb7.block (sb + 1) (by omega)).trans HA.out)
    have HF7 := Lib.hid r3
    clear r3 hb7 HR5 HO5 HC5 HB5 HW HA
    obtain ⟨v0, hv0⟩ : ∃ v, leVal ((q.drop 8).take 6) = v := ⟨_, rfl⟩
    obtain ⟨v1, hv1⟩ : ∃ v, leVal ((q.drop 14).take 4) = v := ⟨_, rfl⟩
    obtain ⟨v2, hv2⟩ : ∃ v, leVal ((q.drop 18).take 1) = v := ⟨_, rfl⟩
    obtain ⟨v3, hv3⟩ : ∃ v, leVal ((q.drop 19).take 4) = v := ⟨_, rfl⟩
    obtain ⟨v4, hv4⟩ : ∃ v, leVal ((q.drop 23).take 4) = v := ⟨_, rfl⟩
    have HV0 := Lib.hid hv0; have HV1 := Lib.hid hv1; have HV2 := Lib.hid hv2; have HV3 := Lib.hid hv3; have HV4 := Lib.hid hv4
    clear hv0 hv1 hv2 hv3 hv4
    have hrsb : rb < sb := by omega
    go_loopw [48] (fun i wr => ∃ k : Nat, k ≤ 5 ∧ i = .int .i64 k ∧ Hid ((∀ b, b < w7.heap.size → b ≠ rb → b ≠ sb → wr.heap[b]? = w7.heap[b]?) ∧ Below w.heap.size w wr ∧ w7.heap.size ≤ wr.heap.size) ∧ ((k = 0 ∧ wr.heap[sb]? = some (.cells #[.int .i64 0, .int .i64 0, .int .i64 0, .int .i64 0, .int .i64 0] 26 (0, 0)) ∧ Rdr wr rb A3 60 c3 8 q) ∨ (k = 1 ∧ wr.heap[sb]? = some (.cells #[.int .i64 v0, .int .i64 0, .int .i64 0, .int .i64 0, .int .i64 0] 26 (0, 0)) ∧ Rdr wr rb A3 60 c3 14 q) ∨ (k = 2 ∧ wr.heap[sb]? = some (.cells #[.int .i64 v0, .int .i64 v1, .int .i64 0, .int .i64 0, .int .i64 0] 26 (0, 0)) ∧ Rdr wr rb A3 60 c3 18 q) ∨ (k = 3 ∧ wr.heap[sb]? = some (.cells #[.int .i64 v0, .int .i64 v1, .int .i64 v2, .int .i64 0, .int .i64 0] 26 (0, 0)) ∧ Rdr wr rb A3 60 c3 19 q) ∨ (k = 4 ∧ wr.heap[sb]? = some (.cells #[.int .i64 v0, .int .i64 v1, .int .i64 v2, .int .i64 v3, .int .i64 0] 26 (0, 0)) ∧ Rdr wr rb A3 60 c3 23 q) ∨ (k = 5 ∧ wr.heap[sb]? = some (.cells #[.int .i64 v0, .int .i64 v1, .int .i64 v2, .int .i64 v3, .int .i64 v4] 26 (0, 0)) ∧ Rdr wr rb A3 60 c3 27 q))) (fun i _ => 5 - (intOf i).toNat)
    case atStart => exact ⟨0, by omega, rfl, Lib.hid ⟨fun b _ _ _ => rfl, HB7.out, Nat.le_refl _⟩, .inl ⟨rfl, HW7.out, HR7.out⟩⟩
    case round =>
      clear HR7 HW7
      obtain ⟨k, hk5, rfl, HKp, hin⟩ := hrel
      have ra : wr.heap[sb + 1]? = some (.cells #[.pointer (some ⟨sb, 0, none⟩), .pointer (some ⟨sb, 1, none⟩), .pointer (some ⟨sb, 2, none⟩), .pointer (some ⟨sb, 3, none⟩), .pointer (some ⟨sb, 4, none⟩)] 94 (0, 0)) := (HKp.out.1 (sb + 1) (by omega) (by omega) (by omega)).trans HA7.out
      have rf : wr.heap[sb + 3]? = some (.cells #[.int .i64 0, .int .i64 6, .int .i64 0, .int .i64 4, .int .i64 0, .int .i64 1, .int .i64 0, .int .i64 4, .int .i64 0, .int .i64 4] 98 (0, 0)) := (HKp.out.1 (sb + 3) (by omega) (by omega) (by omega)).trans HF7.out
      have HRA := Lib.hid ra; have HRF := Lib.hid rf
      have hws : sb + 4 ≤ wr.heap.size := by have := HKp.out.2.2; omega
      clear ra rf
      rcases hin with ⟨rfl, hS, hR⟩ | ⟨rfl, hS, hR⟩ | ⟨rfl, hS, hR⟩ | ⟨rfl, hS, hR⟩ | ⟨rfl, hS, hR⟩ | ⟨rfl, hS, hR⟩
      · have fa : wr.cell? ⟨sb + 3, 0, none⟩ = some (.int .i64 0) := cell_of_row _ _ 0 _ 98 (0, 0) HRF.out
        have fb : wr.cell? ⟨sb + 3, 1, none⟩ = some (.int .i64 6) := cell_of_row _ _ 1 _ 98 (0, 0) HRF.out
        have HRd := Lib.hid hR
        have HSb := Lib.hid hS
        clear hR hS
        go_upto_region 13 with (fail)
        have hal : Below wr.heap.size wr (wr.alloc (.cells #[.int .i64 0, .int .i64 6] 98)) := (Below.refl _ _).alloc (Nat.le_refl _) _
        have hnew := heap_alloc_new wr (.cells #[.int .i64 0, .int .i64 6] 98)
        have hsz8 : (wr.alloc (.cells #[.int .i64 0, .int .i64 6] 98)).heap.size = wr.heap.size + 1 := by simp
        generalize wr.alloc (.cells #[.int .i64 0, .int .i64 6] 98) = w8 at *
        obtain ⟨fbk, hfb⟩ : ∃ x, wr.heap.size = x := ⟨_, rfl⟩
        rw [hfb] at hnew hsz8 ⊢
        have p0 : w8.cell? ⟨sb + 1, 0, none⟩ = some (.pointer (some ⟨sb, 0, none⟩)) := cell_of_row _ _ 0 _ 94 (0, 0) ((hal.block _ (by omega)).trans HRA.out)
        have p1 : w8.cell? ⟨fbk, 1, none⟩ = some (.int .i64 6) := cell_of_row _ _ 1 _ 98 (0, 0) hnew
        have HR8 := Lib.hid (HRd.out.grown hal)
        have hcall := RInt_any w8.drew rb 60 c3 8 A3 q (HR8.out.drewN 1) HYQ.out (by omega) hc3 6 (by omega) (by omega) (by omega)
        rw [HV0.out] at hcall
        have HS8 := Lib.hid ((hal.block sb (by omega)).trans HSb.out)
        have hkeep : ∀ x : World, w8.drew.grownBy x (some rb) → x.cell? ⟨sb + 1, 0, none⟩ = some (.pointer (some ⟨sb, 0, none⟩)) ∧ x.cell? ⟨fbk, 1, none⟩ = some (.int .i64 6) ∧ x.cell? ⟨sb, 0, none⟩ = some (.int .i64 0) ∧ x.frozen? ⟨sb, 0, none⟩ = false := fun x hx => by
          have e0 : x.heap[sb]? = w8.heap[sb]? := hx.block sb (show sb < w8.heap.size by omega) (by simp; omega)
          have e1 : x.heap[sb + 1]? = w8.heap[sb + 1]? := hx.block (sb + 1) (show sb + 1 < w8.heap.size by omega) (by simp; omega)
          have e2 : x.heap[fbk]? = w8.heap[fbk]? := hx.block fbk (show fbk < w8.heap.size by omega) (by simp; omega)
          exact ⟨(World.cell?_of_block e1).trans p0, (World.cell?_of_block e2).trans p1, cell_of_row _ _ 0 _ 26 (0, 0) (e0.trans HS8.out), frozen_of_row _ _ 0 _ _ (e0.trans HS8.out)⟩
        have HALx := Lib.hid hal
        clear hal fa fb
        go_region_held3 (fun w' => w'.cell? ⟨sb + 1, 0, none⟩ = some (.pointer (some ⟨sb, 0, none⟩)) ∧ w'.cell? ⟨fbk, 1, none⟩ = some (.int .i64 6))
          (first | exact ⟨p0, p1⟩ | exact ⟨hk0, hk1⟩ | exact ⟨hk4, hk5'⟩ | (go_keep; done))
          ((first | (go_at_call 39; refine hcall.mono ?_; rintro e w9 ⟨rfl, hR9, hg9⟩; have hk9 := hkeep w9 hg9; obtain ⟨hk0, hk1, hk2, hk3⟩ := hk9; have hk4 := (World.cell?_setCell_far w9 ⟨sb, 0, none⟩ ⟨sb + 1, 0, none⟩ (.int .i64 v0) (by simp)).trans hk0; have hk5' := (World.cell?_setCell_far w9 ⟨sb, 0, none⟩ ⟨fbk, 1, none⟩ (.int .i64 v0) (by simp; omega)).trans hk1) | fail))
        all_goals
          have hg8 : w8.drew.grownBy w9 (some rb) := hg9
          have hk' : ∀ b, b < w8.heap.size → b ≠ rb → b ≠ sb → (w9.setCell ⟨sb, 0, none⟩ (.int .i64 v0)).heap[b]? = w8.heap[b]? := fun b hb h1 h2 => (heap_setCell_other _ _ _ _ (by simp only; exact h2)).trans (hg8.block b hb (fun e => h1 (by injection e)))
          have hb' : Below w.heap.size w (w9.setCell ⟨sb, 0, none⟩ (.int .i64 v0)) := ((belowDrewN (HKp.out.2.1.trans (HALx.out.mono (by omega))) 1).grown hg8 (by show w.heap.size ≤ w8.heap.size; omega) (fun k h => by injection h with h; omega)).setCell (by simp only; omega) _
          have hz' : w7.heap.size ≤ (w9.setCell ⟨sb, 0, none⟩ (.int .i64 v0)).heap.size := by have h1 : w8.heap.size ≤ w9.heap.size := hg8.size; simp; omega
          have HKq : Hid ((∀ b, b < w7.heap.size → b ≠ rb → b ≠ sb → (w9.setCell ⟨sb, 0, none⟩ (.int .i64 v0)).heap[b]? = w7.heap[b]?) ∧ Below w.heap.size w (w9.setCell ⟨sb, 0, none⟩ (.int .i64 v0)) ∧ w7.heap.size ≤ (w9.setCell ⟨sb, 0, none⟩ (.int .i64 v0)).heap.size) := Lib.hid ⟨fun b hb h1 h2 => (hk' b (by omega) h1 h2).trans ((HALx.out.block b (by omega)).trans (HKp.out.1 b hb h1 h2)), hb', hz'⟩
          have e9 : w9.heap[sb]? = some (.cells #[.int .i64 0, .int .i64 0, .int .i64 0, .int .i64 0, .int .i64 0] 26 (0, 0)) := (hg8.block sb (show sb < w8.heap.size by omega) (by simp; omega)).trans HS8.out
          have HSq : Hid ((w9.setCell ⟨sb, 0, none⟩ (.int .i64 v0)).heap[sb]? = some (.cells #[.int .i64 v0, .int .i64 0, .int .i64 0, .int .i64 0, .int .i64 0] 26 (0, 0))) := Lib.hid (by rw [heap_setCell_same w9 sb 0 _ 26 (.int .i64 v0) e9]; simp)
          have HRq := Lib.hid (rdr_setS hR9 ⟨sb, 0, none⟩ (.int .i64 v0) hrsb)
          clear hg8 hk' hb' hz' e9 hk0 hk1 hk2 hk3 hk4 hk5' p0 p1 hR9 hg9 hkeep hcall
          generalize w9.setCell ⟨sb, 0, none⟩ (.int .i64 v0) = w10 at *
          go_wp2_with fail
          go_roundw
          case rel => exact ⟨1, by omega, rfl, HKq, .inr (.inl ⟨rfl, HSq.out, HRq.out⟩)⟩
          case measure => simp [intOf]
      · have fa : wr.cell? ⟨sb + 3, 2, none⟩ = some (.int .i64 0) := cell_of_row _ _ 2 _ 98 (0, 0) HRF.out
        have fb : wr.cell? ⟨sb + 3, 3, none⟩ = some (.int .i64 4) := cell_of_row _ _ 3 _ 98 (0, 0) HRF.out
        have HRd := Lib.hid hR
        have HSb := Lib.hid hS
        clear hR hS
        go_upto_region 13 with (fail)
        have hal : Below wr.heap.size wr (wr.alloc (.cells #[.int .i64 0, .int .i64 4] 98)) := (Below.refl _ _).alloc (Nat.le_refl _) _
        have hnew := heap_alloc_new wr (.cells #[.int .i64 0, .int .i64 4] 98)
        have hsz8 : (wr.alloc (.cells #[.int .i64 0, .int .i64 4] 98)).heap.size = wr.heap.size + 1 := by simp
        generalize wr.alloc (.cells #[.int .i64 0, .int .i64 4] 98) = w8 at *
        obtain ⟨fbk, hfb⟩ : ∃ x, wr.heap.size = x := ⟨_, rfl⟩
        rw [hfb] at hnew hsz8 ⊢
        have p0 : w8.cell? ⟨sb + 1, 1, none⟩ = some (.pointer (some ⟨sb, 1, none⟩)) := cell_of_row _ _ 1 _ 94 (0, 0) ((hal.block _ (by omega)).trans HRA.out)
        have p1 : w8.cell? ⟨fbk, 1, none⟩ = some (.int .i64 4) := cell_of_row _ _ 1 _ 98 (0, 0) hnew
        have HR8 := Lib.hid (HRd.out.grown hal)
        have hcall := RInt_any w8.drew rb 60 c3 14 A3 q (HR8.out.drewN 1) HYQ.out (by omega) hc3 4 (by omega) (by omega) (by omega)
        rw [HV1.out] at hcall
        have HS8 := Lib.hid ((hal.block sb (by omega)).trans HSb.out)
        have hkeep : ∀ x : World, w8.drew.grownBy x (some rb) → x.cell? ⟨sb + 1, 1, none⟩ = some (.pointer (some ⟨sb, 1, none⟩)) ∧ x.cell? ⟨fbk, 1, none⟩ = some (.int .i64 4) ∧ x.cell? ⟨sb, 1, none⟩ = some (.int .i64 0) ∧ x.frozen? ⟨sb, 1, none⟩ = false := fun x hx => by
          have e0 : x.heap[sb]? = w8.heap[sb]? := hx.block sb (show sb < w8.heap.size by omega) (by simp; omega)
          have e1 : x.heap[sb + 1]? = w8.heap[sb + 1]? := hx.block (sb + 1) (show sb + 1 < w8.heap.size by omega) (by simp; omega)
          have e2 : x.heap[fbk]? = w8.heap[fbk]? := hx.block fbk (show fbk < w8.heap.size by omega) (by simp; omega)
          exact ⟨(World.cell?_of_block e1).trans p0, (World.cell?_of_block e2).trans p1, cell_of_row _ _ 1 _ 26 (0, 0) (e0.trans HS8.out), frozen_of_row _ _ 1 _ _ (e0.trans HS8.out)⟩
        have HALx := Lib.hid hal
        clear hal fa fb
        go_region_held3 (fun w' => w'.cell? ⟨sb + 1, 1, none⟩ = some (.pointer (some ⟨sb, 1, none⟩)) ∧ w'.cell? ⟨fbk, 1, none⟩ = some (.int .i64 4))
          (first | exact ⟨p0, p1⟩ | exact ⟨hk0, hk1⟩ | exact ⟨hk4, hk5'⟩ | (go_keep; done))
          ((first | (go_at_call 39; refine hcall.mono ?_; rintro e w9 ⟨rfl, hR9, hg9⟩; have hk9 := hkeep w9 hg9; obtain ⟨hk0, hk1, hk2, hk3⟩ := hk9; have hk4 := (World.cell?_setCell_far w9 ⟨sb, 1, none⟩ ⟨sb + 1, 1, none⟩ (.int .i64 v1) (by simp)).trans hk0; have hk5' := (World.cell?_setCell_far w9 ⟨sb, 1, none⟩ ⟨fbk, 1, none⟩ (.int .i64 v1) (by simp; omega)).trans hk1) | fail))
        all_goals
          have hg8 : w8.drew.grownBy w9 (some rb) := hg9
          have hk' : ∀ b, b < w8.heap.size → b ≠ rb → b ≠ sb → (w9.setCell ⟨sb, 1, none⟩ (.int .i64 v1)).heap[b]? = w8.heap[b]? := fun b hb h1 h2 => (heap_setCell_other _ _ _ _ (by simp only; exact h2)).trans (hg8.block b hb (fun e => h1 (by injection e)))
          have hb' : Below w.heap.size w (w9.setCell ⟨sb, 1, none⟩ (.int .i64 v1)) := ((belowDrewN (HKp.out.2.1.trans (HALx.out.mono (by omega))) 1).grown hg8 (by show w.heap.size ≤ w8.heap.size; omega) (fun k h => by injection h with h; omega)).setCell (by simp only; omega) _
          have hz' : w7.heap.size ≤ (w9.setCell ⟨sb, 1, none⟩ (.int .i64 v1)).heap.size := by have h1 : w8.heap.size ≤ w9.heap.size := hg8.size; simp; omega
          have HKq : Hid ((∀ b, b < w7.heap.size → b ≠ rb → b ≠ sb → (w9.setCell ⟨sb, 1, none⟩ (.int .i64 v1)).heap[b]? = w7.heap[b]?) ∧ Below w.heap.size w (w9.setCell ⟨sb, 1, none⟩ (.int .i64 v1)) ∧ w7.heap.size ≤ (w9.setCell ⟨sb, 1, none⟩ (.int .i64 v1)).heap.size) := Lib.hid ⟨fun b hb h1 h2 => (hk' b (by omega) h1 h2).trans ((HALx.out.block b (by omega)).trans (HKp.out.1 b hb h1 h2)), hb', hz'⟩
          have e9 : w9.heap[sb]? = some (.cells #[.int .i64 v0, .int .i64 0, .int .i64 0, .int .i64 0, .int .i64 0] 26 (0, 0)) := (hg8.block sb (show sb < w8.heap.size by omega) (by simp; omega)).trans HS8.out
          have HSq : Hid ((w9.setCell ⟨sb, 1, none⟩ (.int .i64 v1)).heap[sb]? = some (.cells #[.int .i64 v0, .int .i64 v1, .int .i64 0, .int .i64 0, .int .i64 0] 26 (0, 0))) := Lib.hid (by rw [heap_setCell_same w9 sb 1 _ 26 (.int .i64 v1) e9]; simp)
          have HRq := Lib.hid (rdr_setS hR9 ⟨sb, 1, none⟩ (.int .i64 v1) hrsb)
          clear hg8 hk' hb' hz' e9 hk0 hk1 hk2 hk3 hk4 hk5' p0 p1 hR9 hg9 hkeep hcall
          generalize w9.setCell ⟨sb, 1, none⟩ (.int .i64 v1) = w10 at *
          go_wp2_with fail
          go_roundw
          case rel => exact ⟨2, by omega, rfl, HKq, .inr (.inr (.inl ⟨rfl, HSq.out, HRq.out⟩))⟩
          case measure => simp [intOf]
      · have fa : wr.cell? ⟨sb + 3, 4, none⟩ = some (.int .i64 0) := cell_of_row _ _ 4 _ 98 (0, 0) HRF.out
        have fb : wr.cell? ⟨sb + 3, 5, none⟩ = some (.int .i64 1) := cell_of_row _ _ 5 _ 98 (0, 0) HRF.out
        have HRd := Lib.hid hR
        have HSb := Lib.hid hS
        clear hR hS
        go_upto_region 13 with (fail)
        have hal : Below wr.heap.size wr (wr.alloc (.cells #[.int .i64 0, .int .i64 1] 98)) := (Below.refl _ _).alloc (Nat.le_refl _) _
        have hnew := heap_alloc_new wr (.cells #[.int .i64 0, .int .i64 1] 98)
        have hsz8 : (wr.alloc (.cells #[.int .i64 0, .int .i64 1] 98)).heap.size = wr.heap.size + 1 := by simp
        generalize wr.alloc (.cells #[.int .i64 0, .int .i64 1] 98) = w8 at *
        obtain ⟨fbk, hfb⟩ : ∃ x, wr.heap.size = x := ⟨_, rfl⟩
        rw [hfb] at hnew hsz8 ⊢
        have p0 : w8.cell? ⟨sb + 1, 2, none⟩ = some (.pointer (some ⟨sb, 2, none⟩)) := cell_of_row _ _ 2 _ 94 (0, 0) ((hal.block _ (by omega)).trans HRA.out)
        have p1 : w8.cell? ⟨fbk, 1, none⟩ = some (.int .i64 1) := cell_of_row _ _ 1 _ 98 (0, 0) hnew
        have HR8 := Lib.hid (HRd.out.grown hal)
        have hcall := RInt_any w8.drew rb 60 c3 18 A3 q (HR8.out.drewN 1) HYQ.out (by omega) hc3 1 (by omega) (by omega) (by omega)
        rw [HV2.out] at hcall
        have HS8 := Lib.hid ((hal.block sb (by omega)).trans HSb.out)
        have hkeep : ∀ x : World, w8.drew.grownBy x (some rb) → x.cell? ⟨sb + 1, 2, none⟩ = some (.pointer (some ⟨sb, 2, none⟩)) ∧ x.cell? ⟨fbk, 1, none⟩ = some (.int .i64 1) ∧ x.cell? ⟨sb, 2, none⟩ = some (.int .i64 0) ∧ x.frozen? ⟨sb, 2, none⟩ = false := fun x hx => by
          have e0 : x.heap[sb]? = w8.heap[sb]? := hx.block sb (show sb < w8.heap.size by omega) (by simp; omega)
          have e1 : x.heap[sb + 1]? = w8.heap[sb + 1]? := hx.block (sb + 1) (show sb + 1 < w8.heap.size by omega) (by simp; omega)
          have e2 : x.heap[fbk]? = w8.heap[fbk]? := hx.block fbk (show fbk < w8.heap.size by omega) (by simp; omega)
          exact ⟨(World.cell?_of_block e1).trans p0, (World.cell?_of_block e2).trans p1, cell_of_row _ _ 2 _ 26 (0, 0) (e0.trans HS8.out), frozen_of_row _ _ 2 _ _ (e0.trans HS8.out)⟩
        have HALx := Lib.hid hal
        clear hal fa fb
        go_region_held3 (fun w' => w'.cell? ⟨sb + 1, 2, none⟩ = some (.pointer (some ⟨sb, 2, none⟩)) ∧ w'.cell? ⟨fbk, 1, none⟩ = some (.int .i64 1))
          (first | exact ⟨p0, p1⟩ | exact ⟨hk0, hk1⟩ | exact ⟨hk4, hk5'⟩ | (go_keep; done))
          ((first | (go_at_call 39; refine hcall.mono ?_; rintro e w9 ⟨rfl, hR9, hg9⟩; have hk9 := hkeep w9 hg9; obtain ⟨hk0, hk1, hk2, hk3⟩ := hk9; have hk4 := (World.cell?_setCell_far w9 ⟨sb, 2, none⟩ ⟨sb + 1, 2, none⟩ (.int .i64 v2) (by simp)).trans hk0; have hk5' := (World.cell?_setCell_far w9 ⟨sb, 2, none⟩ ⟨fbk, 1, none⟩ (.int .i64 v2) (by simp; omega)).trans hk1) | fail))
        all_goals
          have hg8 : w8.drew.grownBy w9 (some rb) := hg9
          have hk' : ∀ b, b < w8.heap.size → b ≠ rb → b ≠ sb → (w9.setCell ⟨sb, 2, none⟩ (.int .i64 v2)).heap[b]? = w8.heap[b]? := fun b hb h1 h2 => (heap_setCell_other _ _ _ _ (by simp only; exact h2)).trans (hg8.block b hb (fun e => h1 (by injection e)))
          have hb' : Below w.heap.size w (w9.setCell ⟨sb, 2, none⟩ (.int .i64 v2)) := ((belowDrewN (HKp.out.2.1.trans (HALx.out.mono (by omega))) 1).grown hg8 (by show w.heap.size ≤ w8.heap.size; omega) (fun k h => by injection h with h; omega)).setCell (by simp only; omega) _
          have hz' : w7.heap.size ≤ (w9.setCell ⟨sb, 2, none⟩ (.int .i64 v2)).heap.size := by have h1 : w8.heap.size ≤ w9.heap.size := hg8.size; simp; omega
          have HKq : Hid ((∀ b, b < w7.heap.size → b ≠ rb → b ≠ sb → (w9.setCell ⟨sb, 2, none⟩ (.int .i64 v2)).heap[b]? = w7.heap[b]?) ∧ Below w.heap.size w (w9.setCell ⟨sb, 2, none⟩ (.int .i64 v2)) ∧ w7.heap.size ≤ (w9.setCell ⟨sb, 2, none⟩ (.int .i64 v2)).heap.size) := Lib.hid ⟨fun b hb h1 h2 => (hk' b (by omega) h1 h2).trans ((HALx.out.block b (by omega)).trans (HKp.out.1 b hb h1 h2)), hb', hz'⟩
          have e9 : w9.heap[sb]? = some (.cells #[.int .i64 v0, .int .i64 v1, .int .i64 0, .int .i64 0, .int .i64 0] 26 (0, 0)) := (hg8.block sb (show sb < w8.heap.size by omega) (by simp; omega)).trans HS8.out
          have HSq : Hid ((w9.setCell ⟨sb, 2, none⟩ (.int .i64 v2)).heap[sb]? = some (.cells #[.int .i64 v0, .int .i64 v1, .int .i64 v2, .int .i64 0, .int .i64 0] 26 (0, 0))) := Lib.hid (by rw [heap_setCell_same w9 sb 2 _ 26 (.int .i64 v2) e9]; simp)
          have HRq := Lib.hid (rdr_setS hR9 ⟨sb, 2, none⟩ (.int .i64 v2) hrsb)
          clear hg8 hk' hb' hz' e9 hk0 hk1 hk2 hk3 hk4 hk5' p0 p1 hR9 hg9 hkeep hcall
          generalize w9.setCell ⟨sb, 2, none⟩ (.int .i64 v2) = w10 at *
          go_wp2_with fail
          go_roundw
          case rel => exact ⟨3, by omega, rfl, HKq, .inr (.inr (.inr (.inl ⟨rfl, HSq.out, HRq.out⟩)))⟩
          case measure => simp [intOf]
      · have fa : wr.cell? ⟨sb + 3, 6, none⟩ = some (.int .i64 0) := cell_of_row _ _ 6 _ 98 (0, 0) HRF.out
        have fb : wr.cell? ⟨sb + 3, 7, none⟩ = some (.int .i64 4) := cell_of_row _ _ 7 _ 98 (0, 0) HRF.out
        have HRd := Lib.hid hR
        have HSb := Lib.hid hS
        clear hR hS
        go_upto_region 13 with (fail)
        have hal : Below wr.heap.size wr (wr.alloc (.cells #[.int .i64 0, .int .i64 4] 98)) := (Below.refl _ _).alloc (Nat.le_refl _) _
        have hnew := heap_alloc_new wr (.cells #[.int .i64 0, .int .i64 4] 98)
        have hsz8 : (wr.alloc (.cells #[.int .i64 0, .int .i64 4] 98)).heap.size = wr.heap.size + 1 := by simp
        generalize wr.alloc (.cells #[.int .i64 0, .int .i64 4] 98) = w8 at *
        obtain ⟨fbk, hfb⟩ : ∃ x, wr.heap.size = x := ⟨_, rfl⟩
        rw [hfb] at hnew hsz8 ⊢
        have p0 : w8.cell? ⟨sb + 1, 3, none⟩ = some (.pointer (some ⟨sb, 3, none⟩)) := cell_of_row _ _ 3 _ 94 (0, 0) ((hal.block _ (by omega)).trans HRA.out)
        have p1 : w8.cell? ⟨fbk, 1, none⟩ = some (.int .i64 4) := cell_of_row _ _ 1 _ 98 (0, 0) hnew
        have HR8 := Lib.hid (HRd.out.grown hal)
        have hcall := RInt_any w8.drew rb 60 c3 19 A3 q (HR8.out.drewN 1) HYQ.out (by omega) hc3 4 (by omega) (by omega) (by omega)
        rw [HV3.out] at hcall
        have HS8 := Lib.hid ((hal.block sb (by omega)).trans HSb.out)
        have hkeep : ∀ x : World, w8.drew.grownBy x (some rb) → x.cell? ⟨sb + 1, 3, none⟩ = some (.pointer (some ⟨sb, 3, none⟩)) ∧ x.cell? ⟨fbk, 1, none⟩ = some (.int .i64 4) ∧ x.cell? ⟨sb, 3, none⟩ = some (.int .i64 0) ∧ x.frozen? ⟨sb, 3, none⟩ = false := fun x hx => by
          have e0 : x.heap[sb]? = w8.heap[sb]? := hx.block sb (show sb < w8.heap.size by omega) (by simp; omega)
          have e1 : x.heap[sb + 1]? = w8.heap[sb + 1]? := hx.block (sb + 1) (show sb + 1 < w8.heap.size by omega) (by simp; omega)
          have e2 : x.heap[fbk]? = w8.heap[fbk]? := hx.block fbk (show fbk < w8.heap.size by omega) (by simp; omega)
          exact ⟨(World.cell?_of_block e1).trans p0, (World.cell?_of_block e2).trans p1, cell_of_row _ _ 3 _ 26 (0, 0) (e0.trans HS8.out), frozen_of_row _ _ 3 _ _ (e0.trans HS8.out)⟩
        have HALx := Lib.hid hal
        clear hal fa fb
        go_region_held3 (fun w' => w'.cell? ⟨sb + 1, 3, none⟩ = some (.pointer (some ⟨sb, 3, none⟩)) ∧ w'.cell? ⟨fbk, 1, none⟩ = some (.int .i64 4))
          (first | exact ⟨p0, p1⟩ | exact ⟨hk0, hk1⟩ | exact ⟨hk4, hk5'⟩ | (go_keep; done))
          ((first | (go_at_call 39; refine hcall.mono ?_; rintro e w9 ⟨rfl, hR9, hg9⟩; have hk9 := hkeep w9 hg9; obtain ⟨hk0, hk1, hk2, hk3⟩ := hk9; have hk4 := (World.cell?_setCell_far w9 ⟨sb, 3, none⟩ ⟨sb + 1, 3, none⟩ (.int .i64 v3) (by simp)).trans hk0; have hk5' := (World.cell?_setCell_far w9 ⟨sb, 3, none⟩ ⟨fbk, 1, none⟩ (.int .i64 v3) (by simp; omega)).trans hk1) | fail))
        all_goals
          have hg8 : w8.drew.grownBy w9 (some rb) := hg9
          have hk' : ∀ b, b < w8.heap.size → b ≠ rb → b ≠ sb → (w9.setCell ⟨sb, 3, none⟩ (.int .i64 v3)).heap[b]? = w8.heap[b]? := fun b hb h1 h2 => (heap_setCell_other _ _ _ _ (by simp only; exact h2)).trans (hg8.block b hb (fun e => h1 (by injection e)))
          have hb' : Below w.heap.size w (w9.setCell ⟨sb, 3, none⟩ (.int .i64 v3)) := ((belowDrewN (HKp.out.2.1.trans (HALx.out.mono (by omega))) 1).grown hg8 (by show w.heap.size ≤ w8.heap.size; omega) (fun k h => by injection h with h; omega)).setCell (by simp only; omega) _
          have hz' : w7.heap.size ≤ (w9.setCell ⟨sb, 3, none⟩ (.int .i64 v3)).heap.size := by have h1 : w8.heap.size ≤ w9.heap.size := hg8.size; simp; omega
          have HKq : Hid ((∀ b, b < w7.heap.size → b ≠ rb → b ≠ sb → (w9.setCell ⟨sb, 3, none⟩ (.int .i64 v3)).heap[b]? = w7.heap[b]?) ∧ Below w.heap.size w (w9.setCell ⟨sb, 3, none⟩ (.int .i64 v3)) ∧ w7.heap.size ≤ (w9.setCell ⟨sb, 3, none⟩ (.int .i64 v3)).heap.size) := Lib.hid ⟨fun b hb h1 h2 => (hk' b (by omega) h1 h2).trans ((HALx.out.block b (by omega)).trans (HKp.out.1 b hb h1 h2)), hb', hz'⟩
          have e9 : w9.heap[sb]? = some (.cells #[.int .i64 v0, .int .i64 v1, .int .i64 v2, .int .i64 0, .int .i64 0] 26 (0, 0)) := (hg8.block sb (show sb < w8.heap.size by omega) (by simp; omega)).trans HS8.out
          have HSq : Hid ((w9.setCell ⟨sb, 3, none⟩ (.int .i64 v3)).heap[sb]? = some (.cells #[.int .i64 v0, .int .i64 v1, .int .i64 v2, .int .i64 v3, .int .i64 0] 26 (0, 0))) := Lib.hid (by rw [heap_setCell_same w9 sb 3 _ 26 (.int .i64 v3) e9]; simp)
          have HRq := Lib.hid (rdr_setS hR9 ⟨sb, 3, none⟩ (.int .i64 v3) hrsb)
          clear hg8 hk' hb' hz' e9 hk0 hk1 hk2 hk3 hk4 hk5' p0 p1 hR9 hg9 hkeep hcall
          generalize w9.setCell ⟨sb, 3, none⟩ (.int .i64 v3) = w10 at *
          go_wp2_with fail
          go_roundw
          case rel => exact ⟨4, by omega, rfl, HKq, .inr (.inr (.inr (.inr (.inl ⟨rfl, HSq.out, HRq.out⟩))))⟩
          case measure => simp [intOf]
      · have fa : wr.cell? ⟨sb + 3, 8, none⟩ = some (.int .i64 0) := cell_of_row _ _ 8 _ 98 (0, 0) HRF.out
        have fb : wr.cell? ⟨sb + 3, 9, none⟩ = some (.int .i64 4) := cell_of_row _ _ 9 _ 98 (0, 0) HRF.out
        have HRd := Lib.hid hR
        have HSb := Lib.hid hS
        clear hR hS
        go_upto_region 13 with (fail)
        have hal : Below wr.heap.size wr (wr.alloc (.cells #[.int .i64 0, .int .i64 4] 98)) := (Below.refl _ _).alloc (Nat.le_refl _) _
        have hnew := heap_alloc_new wr (.cells #[.int .i64 0, .int .i64 4] 98)
        have hsz8 : (wr.alloc (.cells #[.int .i64 0, .int .i64 4] 98)).heap.size = wr.heap.size + 1 := by simp
        generalize wr.alloc (.cells #[.int .i64 0, .int .i64 4] 98) = w8 at *
        obtain ⟨fbk, hfb⟩ : ∃ x, wr.heap.size = x := ⟨_, rfl⟩
        rw [hfb] at hnew hsz8 ⊢
        have p0 : w8.cell? ⟨sb + 1, 4, none⟩ = some (.pointer (some ⟨sb, 4, none⟩)) := cell_of_row _ _ 4 _ 94 (0, 0) ((hal.block _ (by omega)).trans HRA.out)
        have p1 : w8.cell? ⟨fbk, 1, none⟩ = some (.int .i64 4) := cell_of_row _ _ 1 _ 98 (0, 0) hnew
        have HR8 := Lib.hid (HRd.out.grown hal)
        have hcall := RInt_any w8.drew rb 60 c3 23 A3 q (HR8.out.drewN 1) HYQ.out (by omega) hc3 4 (by omega) (by omega) (by omega)
        rw [HV4.out] at hcall
        have HS8 := Lib.hid ((hal.block sb (by omega)).trans HSb.out)
        have hkeep : ∀ x : World, w8.drew.grownBy x (some rb) → x.cell? ⟨sb + 1, 4, none⟩ = some (.pointer (some ⟨sb, 4, none⟩)) ∧ x.cell? ⟨fbk, 1, none⟩ = some (.int .i64 4) ∧ x.cell? ⟨sb, 4, none⟩ = some (.int .i64 0) ∧ x.frozen? ⟨sb, 4, none⟩ = false := fun x hx => by
          have e0 : x.heap[sb]? = w8.heap[sb]? := hx.block sb (show sb < w8.heap.size by omega) (by simp; omega)
          have e1 : x.heap[sb + 1]? = w8.heap[sb + 1]? := hx.block (sb + 1) (show sb + 1 < w8.heap.size by omega) (by simp; omega)
          have e2 : x.heap[fbk]? = w8.heap[fbk]? := hx.block fbk (show fbk < w8.heap.size by omega) (by simp; omega)
          exact ⟨(World.cell?_of_block e1).trans p0, (World.cell?_of_block e2).trans p1, cell_of_row _ _ 4 _ 26 (0, 0) (e0.trans HS8.out), frozen_of_row _ _ 4 _ _ (e0.trans HS8.out)⟩
        have HALx := Lib.hid hal
        clear hal fa fb
        go_region_held3 (fun w' => w'.cell? ⟨sb + 1, 4, none⟩ = some (.pointer (some ⟨sb, 4, none⟩)) ∧ w'.cell? ⟨fbk, 1, none⟩ = some (.int .i64 4))
          (first | exact ⟨p0, p1⟩ | exact ⟨hk0, hk1⟩ | exact ⟨hk4, hk5'⟩ | (go_keep; done))
          ((first | (go_at_call 39; refine hcall.mono ?_; rintro e w9 ⟨rfl, hR9, hg9⟩; have hk9 := hkeep w9 hg9; obtain ⟨hk0, hk1, hk2, hk3⟩ := hk9; have hk4 := (World.cell?_setCell_far w9 ⟨sb, 4, none⟩ ⟨sb + 1, 4, none⟩ (.int .i64 v4) (by simp)).trans hk0; have hk5' := (World.cell?_setCell_far w9 ⟨sb, 4, none⟩ ⟨fbk, 1, none⟩ (.int .i64 v4) (by simp; omega)).trans hk1) | fail))
        all_goals
          have hg8 : w8.drew.grownBy w9 (some rb) := hg9
          have hk' : ∀ b, b < w8.heap.size → b ≠ rb → b ≠ sb → (w9.setCell ⟨sb, 4, none⟩ (.int .i64 v4)).heap[b]? = w8.heap[b]? := fun b hb h1 h2 => (heap_setCell_other _ _ _ _ (by simp only; exact h2)).trans (hg8.block b hb (fun e => h1 (by injection e)))
          have hb' : Below w.heap.size w (w9.setCell ⟨sb, 4, none⟩ (.int .i64 v4)) := ((belowDrewN (HKp.out.2.1.trans (HALx.out.mono (by omega))) 1).grown hg8 (by show w.heap.size ≤ w8.heap.size; omega) (fun k h => by injection h with h; omega)).setCell (by simp only; omega) _
          have hz' : w7.heap.size ≤ (w9.setCell ⟨sb, 4, none⟩ (.int .i64 v4)).heap.size := by have h1 : w8.heap.size ≤ w9.heap.size := hg8.size; simp; omega
          have HKq : Hid ((∀ b, b < w7.heap.size → b ≠ rb → b ≠ sb → (w9.setCell ⟨sb, 4, none⟩ (.int .i64 v4)).heap[b]? = w7.heap[b]?) ∧ Below w.heap.size w (w9.setCell ⟨sb, 4, none⟩ (.int .i64 v4)) ∧ w7.heap.size ≤ (w9.setCell ⟨sb, 4, none⟩ (.int .i64 v4)).heap.size) := Lib.hid ⟨fun b hb h1 h2 => (hk' b (by omega) h1 h2).trans ((HALx.out.block b (by omega)).trans (HKp.out.1 b hb h1 h2)), hb', hz'⟩
          have e9 : w9.heap[sb]? = some (.cells #[.int .i64 v0, .int .i64 v1, .int .i64 v2, .int .i64 v3, .int .i64 0] 26 (0, 0)) := (hg8.block sb (show sb < w8.heap.size by omega) (by simp; omega)).trans HS8.out
          have HSq : Hid ((w9.setCell ⟨sb, 4, none⟩ (.int .i64 v4)).heap[sb]? = some (.cells #[.int .i64 v0, .int .i64 v1, .int .i64 v2, .int .i64 v3, .int .i64 v4] 26 (0, 0))) := Lib.hid (by rw [heap_setCell_same w9 sb 4 _ 26 (.int .i64 v4) e9]; simp)
          have HRq := Lib.hid (rdr_setS hR9 ⟨sb, 4, none⟩ (.int .i64 v4) hrsb)
          clear hg8 hk' hb' hz' e9 hk0 hk1 hk2 hk3 hk4 hk5' p0 p1 hR9 hg9 hkeep hcall
          generalize w9.setCell ⟨sb, 4, none⟩ (.int .i64 v4) = w10 at *
          go_wp2_with fail
          go_roundw
          case rel => exact ⟨5, by omega, rfl, HKq, .inr (.inr (.inr (.inr (.inr (⟨rfl, HSq.out, HRq.out⟩)))))⟩
          case measure => simp [intOf]
      · have HRd := Lib.hid hR
        have HSb := Lib.hid hS
        clear hR hS
        have HRes : Hid (wr.heap[w.heap.size]? = some (.cells #[.int .i64 0, .int .i64 0, .int .i64 0, .int .i64 0, .int .i64 0] 26 (0, 0))) := Lib.hid ((HKp.out.1 w.heap.size (by omega) (by omega) (by omega)).trans HC7.out)
        have hgne : g ≠ rb := by omega
        have HRg : Hid (RdB wr wr.heap.size (some ⟨g, 0, none⟩) ((q.drop 0).take 8)) := Lib.hid (fun k v hv => by
          obtain ⟨b', o', e, hb, hc⟩ := HO7.out.rd k v hv
          injection e with e
          injection e with e1 e2 _
          subst e1; subst e2
          exact ⟨g, 0, rfl, by omega, (World.cell?_of_block (w := w7) (a := ⟨g, 0 + k, none⟩) (HKp.out.1 g (by omega) (by omega) (by omega))).trans hc⟩)
        have hl8 : ((q.drop 0).take 8).length = 8 := by rw [List.length_take, List.length_drop, HQ.out]; rfl
        obtain ⟨S, hS1, hS2⟩ := str_ofS wr ⟨g, 0, none⟩ 8 c4 _ hl8 (bytes_take (bytes_drop HYQ.out 0) 8) (RdB.cells HRg.out)
        have HS := Lib.hid hS2
        have HSO : Hid (supOf q = ⟨v0, v1, v2, v3, v4⟩) := Lib.hid (by unfold supOf; rw [HV0.out, HV1.out, HV2.out, HV3.out, HV4.out])
        have HFm : Hid (formS q = (decide ((q.drop 0).take 8 = lettersS) && (zsS q && decide (okS ⟨v0, v1, v2, v3, v4⟩)))) := Lib.hid (by unfold formS; rw [HSO.out])
        -- what the answer is where it is none
        have HNone : Hid (formS q = false → res = (sup0, 4)) := Lib.hid (fun h => by rw [E.out, if_neg (by rw [h]; decide)])
        have HZC : ∀ x : World, x.heap[w.heap.size]? = some (.cells #[.int .i64 0, .int .i64 0, .int .i64 0, .int .i64 0, .int .i64 0] 26 (0, 0)) → (x.cell? ⟨w.heap.size, 0, none⟩ = some (.int .i64 0) ∧ x.cell? ⟨w.heap.size, 1, none⟩ = some (.int .i64 0) ∧ x.cell? ⟨w.heap.size, 2, none⟩ = some (.int .i64 0) ∧ x.cell? ⟨w.heap.size, 3, none⟩ = some (.int .i64 0) ∧ x.cell? ⟨w.heap.size, 4, none⟩ = some (.int .i64 0)) ∧ ∀ j, x.frozen? ⟨w.heap.size, j, none⟩ = false := fun x hx => ⟨⟨cell_of_row _ _ 0 _ 26 (0, 0) hx, cell_of_row _ _ 1 _ 26 (0, 0) hx, cell_of_row _ _ 2 _ 26 (0, 0) hx, cell_of_row _ _ 3 _ 26 (0, 0) hx, cell_of_row _ _ 4 _ 26 (0, 0) hx⟩, fun j => frozen_of_row _ _ j _ _ hx⟩
        have HZC := Lib.hid HZC
        clear hS2 hl8
        by_cases hs : S.toList = [111, 99, 116, 97, 118, 111, 48, 49]
        · have HLT := Lib.hid (HS.out.1 hs)
          clear HS
          go_wp2_with (rw [hS1])
          refine (Left_any _ rb 60 c3 27 A3 q HRd.out (by omega) (by omega)).mono ?_
          rintro e w9 ⟨rfl, k, rfl⟩
          have ZC : ∀ w10, (wr.drewN k).grownBy w10 (some rb) → w10.heap[w.heap.size]? = some (.cells #[.int .i64 0, .int .i64 0, .int .i64 0, .int .i64 0, .int .i64 0] 26 (0, 0)) ∧ w10.heap[sb]? = some (.cells #[.int .i64 v0, .int .i64 v1, .int .i64 v2, .int .i64 v3, .int .i64 v4] 26 (0, 0)) ∧ Below w.heap.size w w10 ∧ wr.heap.size ≤ w10.heap.size := fun w10 hg =>
            ⟨(hg.block w.heap.size (show w.heap.size < wr.heap.size by omega) (by simp; omega)).trans HRes.out, (hg.block sb (show sb < wr.heap.size by omega) (by simp; omega)).trans HSb.out, (belowDrewN HKp.out.2.1 k).grown hg (show w.heap.size ≤ wr.heap.size by omega) (fun k h => by injection h with h; omega), hg.size⟩
          have HZD := Lib.hid ZC
          clear ZC
          cases hz : zsS q with
          | false =>
            have E4 : Hid (res = (sup0, 4)) := Lib.hid (HNone.out (by rw [HFm.out, hz]; simp))
            have hz' : ∃ x ∈ (q.drop 27).take 33, x ≠ 0 := by
              unfold zsS at hz
              simpa using hz
            have HZ := Lib.hid hz'
            clear hz hz'
            go_wp2_with fail
            refine (Zeros_any _ rb 60 c3 27 A3 q (HRd.out.drewN k) (by omega) hc3 33 (by omega) (by omega) 4 (.inr ⟨rfl, HZ.out⟩)).mono ?_
            rintro e w10 ⟨rfl, hg⟩
            obtain ⟨hx1, _, hx3, _⟩ := HZD.out w10 hg
            obtain ⟨⟨e0, e1, e2, e3, e4⟩, hfz⟩ := HZC.out w10 hx1
            have f0 := hfz 0; have f1 := hfz 1; have f2 := hfz 2; have f3 := hfz 3; have f4 := hfz 4
            have HB10 := Lib.hid hx3
            clear hfz hx1 hx3 hg
            go_wp2_with fail
            rw [E4.out]
            refine bodyPost_ret (v := .tuple #[.agg #[.int .i64 0, .int .i64 0, .int .i64 0, .int .i64 0, .int .i64 0], .int .i64 4]) (by simp [results, Tryz.results24, go_sem, e0, e1, e2, e3, e4]) rfl ⟨rfl, ?_⟩
            exact ((((HB10.out.setCell (Nat.le_refl _) _).setCell (Nat.le_refl _) _).setCell (Nat.le_refl _) _).setCell (Nat.le_refl _) _).setCell (Nat.le_refl _) _
          | true =>
            have hz' : ∀ x ∈ (q.drop 27).take 33, x = 0 := by
              have h := hz
              unfold zsS at h
              simpa using h
            have HZ := Lib.hid hz'
            have HZT := Lib.hid hz
            clear hz hz'
            go_wp2_with fail
            refine (Zeros_any _ rb 60 c3 27 A3 q (HRd.out.drewN k) (by omega) hc3 33 (by omega) (by omega) 0 (.inl ⟨rfl, HZ.out⟩)).mono ?_
            rintro e w10 ⟨rfl, hg⟩
            obtain ⟨hx1, hx2, hx3, hx4⟩ := HZD.out w10 hg
            have HX1 := Lib.hid hx1
            have HB10 := Lib.hid hx3
            have g0 : w10.cell? ⟨sb, 0, none⟩ = some (.int .i64 v0) := cell_of_row _ _ 0 _ 26 (0, 0) hx2
            have g1 : w10.cell? ⟨sb, 1, none⟩ = some (.int .i64 v1) := cell_of_row _ _ 1 _ 26 (0, 0) hx2
            have g2 : w10.cell? ⟨sb, 2, none⟩ = some (.int .i64 v2) := cell_of_row _ _ 2 _ 26 (0, 0) hx2
            have g3 : w10.cell? ⟨sb, 3, none⟩ = some (.int .i64 v3) := cell_of_row _ _ 3 _ 26 (0, 0) hx2
            have g4 : w10.cell? ⟨sb, 4, none⟩ = some (.int .i64 v4) := cell_of_row _ _ 4 _ 26 (0, 0) hx2
            have hMy := MayS_any ⟨v0, v1, v2, v3, v4⟩ w10
            unfold Sup.cells at hMy
            simp only at hMy
            have HX2 := Lib.hid hx2
            clear hx1 hx2 hx3 hg
            by_cases hok : okS ⟨v0, v1, v2, v3, v4⟩
            · rw [decide_eq_true hok] at hMy
              have E4 : Hid (res = (⟨v0, v1, v2, v3, v4⟩, 0)) := Lib.hid (by rw [E.out, HFm.out, HLT.out, HZT.out, decide_eq_true hok, HSO.out]; simp)
              go_wp2_with fail
              refine hMy.mono ?_
              rintro e w11 ⟨rfl, hb⟩
              obtain ⟨⟨e0, e1, e2, e3, e4⟩, hfz⟩ := HZC.out w11 ((hb.block _ (by omega)).trans HX1.out)
              have f0 := hfz 0; have f1 := hfz 1; have f2 := hfz 2; have f3 := hfz 3; have f4 := hfz 4
              have hy2 := (hb.block sb (by omega)).trans HX2.out
              have HB11 := Lib.hid (HB10.out.trans (hb.mono (by omega)))
              clear g0 g1 g2 g3 g4
              have g0 : w11.cell? ⟨sb, 0, none⟩ = some (.int .i64 v0) := cell_of_row _ _ 0 _ 26 (0, 0) hy2
              have g1 : w11.cell? ⟨sb, 1, none⟩ = some (.int .i64 v1) := cell_of_row _ _ 1 _ 26 (0, 0) hy2
              have g2 : w11.cell? ⟨sb, 2, none⟩ = some (.int .i64 v2) := cell_of_row _ _ 2 _ 26 (0, 0) hy2
              have g3 : w11.cell? ⟨sb, 3, none⟩ = some (.int .i64 v3) := cell_of_row _ _ 3 _ 26 (0, 0) hy2
              have g4 : w11.cell? ⟨sb, 4, none⟩ = some (.int .i64 v4) := cell_of_row _ _ 4 _ 26 (0, 0) hy2
              clear hfz hy2 hb hMy
              go_wp2_with fail
              rw [E4.out]
              refine bodyPost_ret (v := .tuple #[.agg #[.int .i64 v0, .int .i64 v1, .int .i64 v2, .int .i64 v3, .int .i64 v4], .int .i64 0]) (by simp [results, Tryz.results24, go_sem, e0, e1, e2, e3, e4]) rfl ⟨rfl, ?_⟩
              exact ((((HB11.out.setCell (Nat.le_refl _) _).setCell (Nat.le_refl _) _).setCell (Nat.le_refl _) _).setCell (Nat.le_refl _) _).setCell (Nat.le_refl _) _
            · rw [decide_eq_false hok] at hMy
              have E4 : Hid (res = (sup0, 4)) := Lib.hid (HNone.out (by rw [HFm.out, decide_eq_false hok]; simp))
              go_wp2_with fail
              refine hMy.mono ?_
              rintro e w11 ⟨rfl, hb⟩
              obtain ⟨⟨e0, e1, e2, e3, e4⟩, hfz⟩ := HZC.out w11 ((hb.block _ (by omega)).trans HX1.out)
              have f0 := hfz 0; have f1 := hfz 1; have f2 := hfz 2; have f3 := hfz 3; have f4 := hfz 4
              have HB11 := Lib.hid (HB10.out.trans (hb.mono (by omega)))
              clear g0 g1 g2 g3 g4
              clear hfz hb hMy
              go_wp2_with fail
              rw [E4.out]
              refine bodyPost_ret (v := .tuple #[.agg #[.int .i64 0, .int .i64 0, .int .i64 0, .int .i64 0, .int .i64 0], .int .i64 4]) (by simp [results, Tryz.results24, go_sem, e0, e1, e2, e3, e4]) rfl ⟨rfl, ?_⟩
              exact ((((HB11.out.setCell (Nat.le_refl _) _).setCell (Nat.le_refl _) _).setCell (Nat.le_refl _) _).setCell (Nat.le_refl _) _).setCell (Nat.le_refl _) _
        · have E4 : Hid (res = (sup0, 4)) := Lib.hid (HNone.out (by
            rw [HFm.out]
            have : ¬ ((q.drop 0).take 8 = lettersS) := fun h => hs (HS.out.2 h)
            rw [decide_eq_false this]; rfl))
          have hsn : (S.toList == [111, 99, 116, 97, 118, 111, 48, 49]) = false := by simpa using hs
          obtain ⟨⟨e0, e1, e2, e3, e4⟩, hfz⟩ := HZC.out wr HRes.out
          have f0 := hfz 0; have f1 := hfz 1; have f2 := hfz 2; have f3 := hfz 3; have f4 := hfz 4
          clear hs hfz
          go_wp2_with (rw [hS1])
          rw [E4.out]
          refine bodyPost_ret (v := .tuple #[.agg #[.int .i64 0, .int .i64 0, .int .i64 0, .int .i64 0, .int .i64 0], .int .i64 4]) (by simp [results, Tryz.results24, go_sem, e0, e1, e2, e3, e4]) rfl ⟨rfl, ?_⟩
          exact ((((HKp.out.2.1.setCell (Nat.le_refl _) _).setCell (Nat.le_refl _) _).setCell (Nat.le_refl _) _).setCell (Nat.le_refl _) _).setCell (Nat.le_refl _) _
  · have hne : (x != (y : Int)) = true := by simpa using hxy
    have hne' : (x == (y : Int)) = false := by simpa using hxy
    have E : Hid (res = (sup0, 5)) := Lib.hid (by rw [HE.out, if_pos hxy])
    have e0 : wy.cell? ⟨w.heap.size, 0, none⟩ = some (.int .i64 0) := cell_of_row _ _ 0 _ 26 (0, 0) HCy.out
    have e1 : wy.cell? ⟨w.heap.size, 1, none⟩ = some (.int .i64 0) := cell_of_row _ _ 1 _ 26 (0, 0) HCy.out
    have e2 : wy.cell? ⟨w.heap.size, 2, none⟩ = some (.int .i64 0) := cell_of_row _ _ 2 _ 26 (0, 0) HCy.out
    have e3 : wy.cell? ⟨w.heap.size, 3, none⟩ = some (.int .i64 0) := cell_of_row _ _ 3 _ 26 (0, 0) HCy.out
    have e4 : wy.cell? ⟨w.heap.size, 4, none⟩ = some (.int .i64 0) := cell_of_row _ _ 4 _ 26 (0, 0) HCy.out
    have f0 := frozen_of_row _ _ 0 _ _ HCy.out; have f1 := frozen_of_row _ _ 1 _ _ HCy.out; have f2 := frozen_of_row _ _ 2 _ _ HCy.out; have f3 := frozen_of_row _ _ 3 _ _ HCy.out; have f4 := frozen_of_row _ _ 4 _ _ HCy.out
    clear HE
    go_wp2_with fail
    rw [E.out]
    refine bodyPost_ret (v := .tuple #[.agg #[.int .i64 0, .int .i64 0, .int .i64 0, .int .i64 0, .int .i64 0], .int .i64 5]) (by simp [results, Tryz.results24, go_sem, e0, e1, e2, e3, e4]) rfl ⟨rfl, ?_⟩
    exact ((((HBy.out.setCell (Nat.le_refl _) _).setCell (Nat.le_refl _) _).setCell (Nat.le_refl _) _).setCell (Nat.le_refl _) _).setCell (Nat.le_refl _) _
end Go.Proofs.YtblibmalommdkaaGreat.Re
