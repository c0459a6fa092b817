/-
  What OpenHead answers.
-/
import Derived.Test.YtkjfbgjbifdbjaaWalki
import Derived.Laws.BytesString
import Derived.Laws.IdiomStrings
namespace Go.Proofs.Ytkjfbgjbifdbjaa
open Go.RowKit
def toU8 (q : List Int) : List UInt8 := q.map fun x => UInt8.ofNat x.toNat
theorem toU8_back (q : List Int) (h : Bytes q) : (toU8 q).map (fun b => (b.toNat : Int)) = q := by
  induction q with
  | nil => rfl
  | cons x q ih =>
    obtain ⟨h0, h1⟩ := h x (by simp)
    have e : ((UInt8.ofNat x.toNat).toNat : Int) = x := by
      rw [UInt8.toNat_ofNat']; omega
    have := ih (fun b hb => h b (by simp [hb]))
    simp only [toU8, List.map_cons, List.map_map] at this ⊢
    rw [this, e]
theorem str_of (w : World) (a : Addr) (n c : Nat) (q : List Int) (hl : q.length = n) (hy : Bytes q) (hr : ∀ j u, (bcells q)[j]? = some u → w.cell? (a.add j) = some u) :
    ∃ S : ByteArray, (convert 25 9 (.slice (some a) n c)).run Try.prog w = .ok (.string S) w ∧ (S.toList = [111, 99, 116, 97, 118, 111, 45, 106] ↔ q = lettersL) := by
  have hlu : (toU8 q).length = n := by simp [toU8, hl]
  have hrun := run_convert_bytes_back (P := Try.prog) w 25 9 5 a c (toU8 q) Try.underlying25 Try.underlying5 Try.underlying9 (fun j hj => by
    refine hr j _ ?_
    rw [bcells_get]
    have e : q[j]? = some (((toU8 q)[j]).toNat : Int) := by
      have h2 : ((toU8 q).map (fun b => (b.toNat : Int)))[j]? = some (((toU8 q)[j]).toNat : Int) := by
        rw [List.getElem?_map, List.getElem?_eq_getElem hj]; rfl
      rw [toU8_back q hy] at h2
      exact h2
    rw [e]; rfl)
  rw [hlu] at hrun
  refine ⟨_, hrun, ?_⟩
  rw [ByteArray.toList_mk]
  constructor
  · intro h2
    have h3 := toU8_back q hy
    rw [h2] at h3
    rw [← h3]; rfl
  · intro h
    subst h
    rfl
def wv (q : List Int) : Int := leVal ((q.drop 8).take 4)
def rv_ (q : List Int) : Int := leVal ((q.drop 12).take 1)
def bv (q : List Int) : Int := leVal ((q.drop 13).take 4)
def sv (q : List Int) : Int := leVal ((q.drop 17).take 4)
def zs (q : List Int) : Bool := ((q.drop 21).take 39).all fun x => decide (x = 0)
def formB (q : List Int) : Bool := decide ((q.drop 0).take 8 = lettersL) && (decide (rv_ q ≤ 1) && (decide (wv q ≤ 2147483647) && (decide (bv q ≤ 2147483647) && zs q)))
def hdOf (q : List Int) : Hd := ⟨wv q, decide (rv_ q = 1), bv q, sv q⟩
def openP (l : List Int) : Hd × Int :=
  if l.length ≠ 64 then (hd0, 3) else if leVal (l.drop 60) ≠ (crcOf (l.take 60) : Int) then (hd0, 5) else if formB (l.take 60) = true then (hdOf (l.take 60), 0) else (hd0, 4)
theorem four_bd {q : List Int} (h : Bytes q) (k : Nat) : 0 ≤ leVal ((q.drop k).take 4) ∧ leVal ((q.drop k).take 4) < 4294967296 := leVal_lt4 _ (bytes_take (bytes_drop h k) 4) (by rw [List.length_take]; omega)
theorem one_bd {q : List Int} (h : Bytes q) : 0 ≤ rv_ q ∧ rv_ q < 4294967296 := leVal_lt4 _ (bytes_take (bytes_drop h 12) 1) (by rw [List.length_take]; omega)
set_option maxHeartbeats 2000000 in
theorem OpenHead_short (A : Option Addr) (n c : Nat) (w : World) (l : List Int) (hl : l.length = n) (hn : n ≠ 64) (_hm : n ≤ 9223372036854775807) :
    Calls Try.prog 12 #[.slice A n c] w fun e w' => e = .returned (.tuple #[(openP l).1.val, .int .i64 (openP l).2]) ∧ Below w.heap.size w w' := by
  have E : openP l = (hd0, 3) := by unfold openP; rw [if_pos (by omega)]
  have HE := Lib.hid E
  clear E
  have h64 : ((n : Int) != 64) = true := by simp; omega
  have h64' : ((n : Int) == 64) = false := by simp; omega
  go_enter Try.func12, Try.ntmps12
  go_wp2_with fail
  rw [HE.out]
  refine bodyPost_ret (v := .tuple #[.agg #[.int .i64 0, .bool false, .int .i64 0, .int .u32 0], .int .i64 3]) (by simp [results, Try.results12, go_sem]) rfl ⟨rfl, ?_⟩
  exact (Below.refl _ _).alloc (Nat.le_refl _) _
set_option maxRecDepth 20000 in
set_option maxHeartbeats 4000000 in
theorem OpenHead_any (b off c : Nat) (w : World) (l : List Int) (hl : l.length = 64) (hr : RdB w w.heap.size (some ⟨b, off, none⟩) l) (hy : Bytes l) (hc0 : 64 ≤ c) (hc : c ≤ 9223372036854775807) :
    Calls Try.prog 12 #[.slice (some ⟨b, off, none⟩) 64 c] w fun e w' => e = .returned (.tuple #[(openP l).1.val, .int .i64 (openP l).2]) ∧ Below w.heap.size w w' := by
  have hq : (l.take 60).length = 60 := by rw [List.length_take, hl]; rfl
  have hyq := bytes_take hy 60
  have hrq : RdB w w.heap.size (some ⟨b, off, none⟩) (l.take 60) := by simpa using hr.piece 0 60
  have hrs : RdB w w.heap.size (some ⟨b, off + 60, none⟩) (l.drop 60) := by
    have := hr.piece 60 4
    rwa [List.take_of_length_le (by rw [List.length_drop, hl]; omega)] at this
  have HQ := Lib.hid hq; have HYQ := Lib.hid hyq; have HRQ := Lib.hid hrq; have HRS := Lib.hid hrs
  have HYS := Lib.hid (bytes_drop hy 60)
  have HLS : Hid ((l.drop 60).length = 4) := Lib.hid (by rw [List.length_drop, hl])
  have hcr := crcOf_lt hyq
  have hE : openP l = if leVal (l.drop 60) ≠ (crcOf (l.take 60) : Int) then (hd0, 5) else if formB (l.take 60) = true then (hdOf (l.take 60), 0) else (hd0, 4) := by
    unfold openP; rw [if_neg (by omega)]
  have HE := Lib.hid hE
  clear hq hyq hrq hrs hl hr hy hE
  have hwr : IntKind.i64.wrap (crcOf (l.take 60) : Int) = crcOf (l.take 60) := by rw [IntKind.wrap_i64]; omega
  go_enter Try.func12, Try.ntmps12
  go_wp2_with fail
  generalize hz : w.alloc (.cells #[.int .i64 0, .bool false, .int .i64 0, .int .u32 0] 24) = wz at *
  have HBz : Hid (Below w.heap.size w wz) := Lib.hid (by rw [← hz]; exact (Below.refl _ _).alloc (Nat.le_refl _) _)
  have HSz : Hid (wz.heap.size = w.heap.size + 1) := Lib.hid (by rw [← hz]; simp)
  have hcz : ∀ j : Nat, wz.cell? ⟨w.heap.size, j, none⟩ = (#[.int .i64 0, .bool false, .int .i64 0, .int .u32 0] : Array Value)[j]? := fun j => by rw [← hz, cell_new]
  have hfz : ∀ j : Nat, wz.frozen? ⟨w.heap.size, j, none⟩ = false := fun j => by
    have hh := heap_alloc_new w (.cells #[.int .i64 0, .bool false, .int .i64 0, .int .u32 0] 24)
    rw [hz] at hh
    unfold World.frozen?
    rw [hh]; simp
  have HCz := Lib.hid hcz; have HFz := Lib.hid hfz
  clear hz hcz hfz
  have HX := Lib.hid (leVal_lt4 (l.drop 60) HYS.out (by rw [HLS.out]; exact Nat.le_refl _))
  refine (Int_any _ 4 (c - 60) wz _ HLS.out (HRS.out.up HBz.out) HYS.out (by omega) (by omega)).mono ?_
  rintro e w1 ⟨rfl, rfl⟩
  generalize leVal (l.drop 60) = x at *
  have HCC : Hid (∀ o : Obj, o = .cells #[.slice (some ⟨b, off, none⟩) 60 c] 25 → (wz.alloc o).cell? ⟨wz.heap.size, 0, none⟩ = some (.slice (some ⟨b, off, none⟩) 60 c)) := Lib.hid (fun o ho => by subst ho; rw [cell_new]; rfl)
  go_wp2_with fail
  refine (crc_any wz.heap.size 1 (some ⟨b, off, none⟩) 60 c _ (l.take 60) HQ.out (((HRQ.out.up HBz.out)).up ((Below.refl _ _).alloc (Nat.le_refl _) _)) HYQ.out (by omega) (HCC.out _ rfl)).mono ?_
  rintro e w2 ⟨rfl, rfl⟩
  generalize hyy : wz.alloc (.cells #[.slice (some ⟨b, off, none⟩) 60 c] 25) = wy at *
  have hbz : Below wz.heap.size wz wy := by rw [← hyy]; exact (Below.refl _ _).alloc (Nat.le_refl _) _
  have hzlt : w.heap.size < wz.heap.size := by rw [HSz.out]; omega
  have HBy : Hid (Below w.heap.size w wy) := Lib.hid (HBz.out.trans (hbz.mono (by omega)))
  have HCy : Hid (∀ j : Nat, wy.cell? ⟨w.heap.size, j, none⟩ = (#[.int .i64 0, .bool false, .int .i64 0, .int .u32 0] : Array Value)[j]?) := Lib.hid (fun j => (hbz.cell (p := ⟨w.heap.size, j, none⟩) hzlt).trans (HCz.out j))
  have HFy : Hid (∀ j : Nat, wy.frozen? ⟨w.heap.size, j, none⟩ = false) := Lib.hid (fun j => (hbz.frozen (p := ⟨w.heap.size, j, none⟩) hzlt).trans (HFz.out j))
  have hylt : w.heap.size < wy.heap.size := Nat.lt_of_lt_of_le hzlt hbz.size
  clear HCz HFz HBz HSz HCC hyy hbz hzlt
  generalize l.take 60 = q at *
  generalize crcOf q = y at *
  by_cases hxy : x = (y : Int)
  · have E : Hid (openP l = if formB q = true then (hdOf q, 0) else (hd0, 4)) := Lib.hid (by rw [HE.out, if_neg (by simpa using hxy)])
    clear HE
    subst hxy
    go_wp2_with fail
    refine (On_any _ b off 60 c q HQ.out (HRQ.out.up HBy.out) (by omega) (by omega)).mono ?_
    rintro e w3 ⟨⟨rb, A3, c3, rfl, hR, hc3, hrb⟩, hb⟩
    have HR3 := Lib.hid hR
    have HB3 := Lib.hid hb
    clear hR hb
    go_wp2_with fail
    refine (Take_any _ rb 60 c3 0 A3 q HR3.out (by omega) hc3 8 (by omega) (by omega)).mono ?_
    rintro e w4 ⟨⟨g, c4, rfl, hO⟩, hR, hg4⟩
    have HO4 := Lib.hid hO
    have HR4 := Lib.hid hR
    have HG4 := Lib.hid hg4
    have hgl : w3.heap.size ≤ g ∧ g < w4.heap.size := hO.base_le
    have hrl : rb < w3.heap.size := HR3.out.lt
    clear hO hR hg4 HR3
    go_wp2_with fail
    refine (RInt_any _ rb 60 c3 8 A3 q HR4.out HYQ.out (by omega) hc3 4 (by omega) (by omega) (by omega)).mono ?_
    rintro e w5 ⟨rfl, hR, hg5⟩
    have HR5 := Lib.hid hR
    have HG5 := Lib.hid hg5
    clear hR hg5 HR4
    go_wp2_with fail
    refine (RInt_any _ rb 60 c3 12 A3 q HR5.out HYQ.out (by omega) hc3 1 (by omega) (by omega) (by omega)).mono ?_
    rintro e w6 ⟨rfl, hR, hg6⟩
    have HR6 := Lib.hid hR
    have HG6 := Lib.hid (grown_trans HG5.out hg6 (fun b h => .inl h))
    clear hR hg6 HR5 HG5
    go_wp2_with fail
    refine (RInt_any _ rb 60 c3 13 A3 q HR6.out HYQ.out (by omega) hc3 4 (by omega) (by omega) (by omega)).mono ?_
    rintro e w7 ⟨rfl, hR, hg7⟩
    have HR7 := Lib.hid hR
    have HG7 := Lib.hid (grown_trans HG6.out hg7 (fun b h => .inl h))
    clear hR hg7 HR6 HG6
    go_wp2_with fail
    refine (RInt_any _ rb 60 c3 17 A3 q HR7.out HYQ.out (by omega) hc3 4 (by omega) (by omega) (by omega)).mono ?_
    rintro e w8 ⟨rfl, hR, hg8⟩
    have HR8 := Lib.hid hR
    have HG8 := Lib.hid (grown_trans HG7.out hg8 (fun b h => .inl h))
    clear hR hg8 HR7 HG7
    go_wp2_with fail
    go_upto_region 12 with (fail)
    have HRg : Hid (RdB w8 w8.heap.size (some ⟨g, 0, none⟩) ((q.drop 0).take 8)) := Lib.hid (by
      have ho : OwnB w8 w3.heap.size (some ⟨g, 0, none⟩) 8 c4 ((q.drop 0).take 8) := ⟨HO4.out.1, HO4.out.2.kept HG8.out (.inr (by simp [Value.ownBlock]; omega))⟩
      exact ho.rd)
    have hrbw : w.heap.size < rb := by omega
    have hg3 : w3.heap.size ≤ w4.heap.size := HG4.out.size
    have hyl3 : wy.heap.size ≤ w3.heap.size := HB3.out.size
    have HK : Hid (∀ j : Nat, w8.cell? ⟨w.heap.size, j, none⟩ = (#[.int .i64 0, .bool false, .int .i64 0, .int .u32 0] : Array Value)[j]? ∧ w8.frozen? ⟨w.heap.size, j, none⟩ = false) := Lib.hid (fun j => by
      have b3 := HB3.out.block w.heap.size (by omega)
      have b4 := HG4.out.block w.heap.size (by omega) (by simp; omega)
      have b8 := HG8.out.block w.heap.size (by omega) (by simp; omega)
      have bb : w8.heap[w.heap.size]? = wy.heap[w.heap.size]? := b8.trans (b4.trans b3)
      exact ⟨(World.cell?_of_block (w := wy) (a := ⟨w.heap.size, j, none⟩) bb).trans (HCy.out j), (World.frozen?_of_block (w := wy) (a := ⟨w.heap.size, j, none⟩) bb).trans (HFy.out j)⟩)
    have HB8 : Hid (Below w.heap.size w w8) := Lib.hid (((HBy.out.trans (HB3.out.mono (by omega))).grown HG4.out (by omega) (fun k h => by injection h with h; omega)).grown HG8.out (by omega) (fun k h => by injection h with h; omega))
    have hl8 : ((q.drop 0).take 8).length = 8 := by rw [List.length_take, List.length_drop, HQ.out]; rfl
    obtain ⟨S, hS1, hS2⟩ := str_of w8 ⟨g, 0, none⟩ 8 c4 _ hl8 (bytes_take (bytes_drop HYQ.out 0) 8) (RdB.cells HRg.out)
    have e0 := (HK.out 0).1; have e1 := (HK.out 1).1; have e2 := (HK.out 2).1; have e3 := (HK.out 3).1
    have f0 := (HK.out 0).2; have f1 := (HK.out 1).2; have f2 := (HK.out 2).2; have f3 := (HK.out 3).2
    simp at e0 e1 e2 e3
    have HS := Lib.hid hS2
    obtain ⟨hv10, hv11⟩ := four_bd HYQ.out 8
    obtain ⟨hv20, hv21⟩ := one_bd HYQ.out
    obtain ⟨hv30, hv31⟩ := four_bd HYQ.out 13
    obtain ⟨hv40, hv41⟩ := four_bd HYQ.out 17
    have hform : formB q = (decide ((q.drop 0).take 8 = lettersL) && (decide (leVal ((q.drop 12).take 1) ≤ 1) && (decide (leVal ((q.drop 8).take 4) ≤ 2147483647) && (decide (leVal ((q.drop 13).take 4) ≤ 2147483647) && zs q)))) := rfl
    have hhd : hdOf q = ⟨leVal ((q.drop 8).take 4), decide (leVal ((q.drop 12).take 1) = 1), leVal ((q.drop 13).take 4), leVal ((q.drop 17).take 4)⟩ := rfl
    unfold rv_ at hv20 hv21
    clear hS2 hl8
    generalize leVal ((q.drop 8).take 4) = v1 at *
    generalize leVal ((q.drop 12).take 1) = v2 at *
    generalize leVal ((q.drop 13).take 4) = v3 at *
    generalize leVal ((q.drop 17).take 4) = v4 at *
    have HF := Lib.hid hform
    have HH := Lib.hid hhd
    clear hform hhd
    by_cases hs : S.toList = [111, 99, 116, 97, 118, 111, 45, 106]
    · have hlet := HS.out.1 hs
      have HLT := Lib.hid hlet
      clear hlet HS
      by_cases a2 : 1 < v2
      · have E4 : Hid (openP l = (hd0, 4)) := Lib.hid (by rw [E.out, HF.out, if_neg]; simp; omega)
        go_wp2_with (rw [hS1])
        rw [E4.out]
        refine bodyPost_ret (v := .tuple #[.agg #[.int .i64 0, .bool false, .int .i64 0, .int .u32 0], .int .i64 4]) (by simp [results, Try.results12, go_sem, e0, e1, e2, e3]) rfl ⟨rfl, ?_⟩
        exact (((HB8.out.setCell (Nat.le_refl _) _).setCell (Nat.le_refl _) _).setCell (Nat.le_refl _) _).setCell (Nat.le_refl _) _
      · by_cases a1 : 2147483647 < v1
        · have E4 : Hid (openP l = (hd0, 4)) := Lib.hid (by rw [E.out, HF.out, if_neg]; simp; omega)
          go_wp2_with (rw [hS1])
          rw [E4.out]
          refine bodyPost_ret (v := .tuple #[.agg #[.int .i64 0, .bool false, .int .i64 0, .int .u32 0], .int .i64 4]) (by simp [results, Try.results12, go_sem, e0, e1, e2, e3]) rfl ⟨rfl, ?_⟩
          exact (((HB8.out.setCell (Nat.le_refl _) _).setCell (Nat.le_refl _) _).setCell (Nat.le_refl _) _).setCell (Nat.le_refl _) _
        · by_cases a3 : 2147483647 < v3
          · have E4 : Hid (openP l = (hd0, 4)) := Lib.hid (by rw [E.out, HF.out, if_neg]; simp; omega)
            go_wp2_with (rw [hS1])
            rw [E4.out]
            refine bodyPost_ret (v := .tuple #[.agg #[.int .i64 0, .bool false, .int .i64 0, .int .u32 0], .int .i64 4]) (by simp [results, Try.results12, go_sem, e0, e1, e2, e3]) rfl ⟨rfl, ?_⟩
            exact (((HB8.out.setCell (Nat.le_refl _) _).setCell (Nat.le_refl _) _).setCell (Nat.le_refl _) _).setCell (Nat.le_refl _) _
          · clear e0 e1 e2 e3 f0 f1 f2 f3
            go_wp2_with (rw [hS1])
            refine (Left_any _ rb 60 c3 21 A3 q HR8.out (by omega) (by omega)).mono ?_
            rintro e w9 ⟨rfl, k, rfl⟩
            have HQ9 : Hid (w.heap.size < rb) := Lib.hid hrbw
            have ZC : ∀ w10, (w8.drewN k).grownBy w10 (some rb) → (∀ j : Nat, w10.cell? ⟨w.heap.size, j, none⟩ = w8.cell? ⟨w.heap.size, j, none⟩ ∧ w10.frozen? ⟨w.heap.size, j, none⟩ = w8.frozen? ⟨w.heap.size, j, none⟩) ∧ Below w.heap.size w w10 := fun w10 hg => by
              have b10 : w10.heap[w.heap.size]? = w8.heap[w.heap.size]? := hg.block w.heap.size (by have := HB8.out.size; have := HG8.out.size; show w.heap.size < w8.heap.size; omega) (by simp; omega)
              exact ⟨fun j => ⟨World.cell?_of_block (w := w8) (a := ⟨w.heap.size, j, none⟩) b10, World.frozen?_of_block (w := w8) (a := ⟨w.heap.size, j, none⟩) b10⟩, (belowDrewN HB8.out k).grown hg (by have := HB8.out.size; show w.heap.size ≤ w8.heap.size; omega) (fun k h => by injection h with h; omega)⟩
            have HZC := Lib.hid ZC
            clear ZC
            have hzz : zs q = true ∨ zs q = false := by cases zs q <;> simp
            rcases hzz with hz | hz
            · have E4 : Hid (openP l = (hdOf q, 0)) := Lib.hid (by rw [E.out, HF.out, if_pos]; have h1 := HLT.out; simp at h1; simp [h1, hz]; omega)
              have hz' : ∀ x ∈ (q.drop 21).take 39, x = 0 := by
                unfold zs at hz
                simpa using hz
              have HZ := Lib.hid hz'
              clear hz hz'
              go_wp2_with fail
              refine (Zeros_any _ rb 60 c3 21 A3 q (HR8.out.drewN k) (by omega) hc3 39 (by omega) (by omega) 0 (.inl ⟨rfl, HZ.out⟩)).mono ?_
              rintro e w10 ⟨rfl, hg⟩
              obtain ⟨hcf, hbl⟩ := HZC.out w10 hg
              have HB10 := Lib.hid hbl
              have e0 := (hcf 0).1.trans (HK.out 0).1; have e1 := (hcf 1).1.trans (HK.out 1).1; have e2 := (hcf 2).1.trans (HK.out 2).1; have e3 := (hcf 3).1.trans (HK.out 3).1
              have f0 := (hcf 0).2.trans (HK.out 0).2; have f1 := (hcf 1).2.trans (HK.out 1).2; have f2 := (hcf 2).2.trans (HK.out 2).2; have f3 := (hcf 3).2.trans (HK.out 3).2
              simp at e0 e1 e2 e3
              have hwv : IntKind.u32.wrap v4 = v4 := by rw [IntKind.wrap_u32]; omega
              clear hcf hbl hg HZC
              rcases (show v2 = 0 ∨ v2 = 1 by omega) with h2 | h2
              all_goals
                subst h2
                go_wp2_with fail
                rw [E4.out, HH.out]
                refine bodyPost_ret (v := .tuple #[.agg #[.int .i64 v1, .bool _, .int .i64 v3, .int .u32 v4], .int .i64 0]) (by simp [results, Try.results12, go_sem, e0, e1, e2, e3]) rfl ⟨rfl, ?_⟩
                exact (((HB10.out.setCell (Nat.le_refl _) _).setCell (Nat.le_refl _) _).setCell (Nat.le_refl _) _).setCell (Nat.le_refl _) _
            · have E4 : Hid (openP l = (hd0, 4)) := Lib.hid (by rw [E.out, HF.out, if_neg]; simp [hz])
              have hz' : ∃ x ∈ (q.drop 21).take 39, x ≠ 0 := by
                unfold zs at hz
                simpa using hz
              have HZ := Lib.hid hz'
              clear hz hz'
              go_wp2_with fail
              refine (Zeros_any _ rb 60 c3 21 A3 q (HR8.out.drewN k) (by omega) hc3 39 (by omega) (by omega) 4 (.inr ⟨rfl, HZ.out⟩)).mono ?_
              rintro e w10 ⟨rfl, hg⟩
              obtain ⟨hcf, hbl⟩ := HZC.out w10 hg
              have HB10 := Lib.hid hbl
              have e0 := (hcf 0).1.trans (HK.out 0).1; have e1 := (hcf 1).1.trans (HK.out 1).1; have e2 := (hcf 2).1.trans (HK.out 2).1; have e3 := (hcf 3).1.trans (HK.out 3).1
              have f0 := (hcf 0).2.trans (HK.out 0).2; have f1 := (hcf 1).2.trans (HK.out 1).2; have f2 := (hcf 2).2.trans (HK.out 2).2; have f3 := (hcf 3).2.trans (HK.out 3).2
              simp at e0 e1 e2 e3
              clear hcf hbl hg HZC
              go_wp2_with fail
              rw [E4.out]
              refine bodyPost_ret (v := .tuple #[.agg #[.int .i64 0, .bool false, .int .i64 0, .int .u32 0], .int .i64 4]) (by simp [results, Try.results12, go_sem, e0, e1, e2, e3]) rfl ⟨rfl, ?_⟩
              exact (((HB10.out.setCell (Nat.le_refl _) _).setCell (Nat.le_refl _) _).setCell (Nat.le_refl _) _).setCell (Nat.le_refl _) _
    · have E4 : Hid (openP l = (hd0, 4)) := Lib.hid (by
        rw [E.out, HF.out, if_neg]
        have : ¬ ((q.drop 0).take 8 = lettersL) := fun h => hs (HS.out.2 h)
        simp only [decide_eq_false this, Bool.false_and]
        simp)
      have hsn : (S.toList == [111, 99, 116, 97, 118, 111, 45, 106]) = false := by simpa using hs
      clear hs
      go_wp2_with (rw [hS1])
      rw [E4.out]
      refine bodyPost_ret (v := .tuple #[.agg #[.int .i64 0, .bool false, .int .i64 0, .int .u32 0], .int .i64 4]) (by simp [results, Try.results12, go_sem, e0, e1, e2, e3]) rfl ⟨rfl, ?_⟩
      exact (((HB8.out.setCell (Nat.le_refl _) _).setCell (Nat.le_refl _) _).setCell (Nat.le_refl _) _).setCell (Nat.le_refl _) _
  · have hne : (x != (y : Int)) = true := by simpa using hxy
    have hne' : (x == (y : Int)) = false := by simpa using hxy
    have E : Hid (openP l = (hd0, 5)) := Lib.hid (by rw [HE.out, if_pos hxy])
    clear HE
    have e0 := HCy.out 0; have e1 := HCy.out 1; have e2 := HCy.out 2; have e3 := HCy.out 3
    have f0 := HFy.out 0; have f1 := HFy.out 1; have f2 := HFy.out 2; have f3 := HFy.out 3
    simp at e0 e1 e2 e3
    go_wp2_with fail
    rw [E.out]
    refine bodyPost_ret (v := .tuple #[.agg #[.int .i64 0, .bool false, .int .i64 0, .int .u32 0], .int .i64 5]) (by simp [results, Try.results12, go_sem, e0, e1, e2, e3]) rfl ⟨rfl, ?_⟩
    exact (((HBy.out.setCell (Nat.le_refl _) _).setCell (Nat.le_refl _) _).setCell (Nat.le_refl _) _).setCell (Nat.le_refl _) _
end Go.Proofs.Ytkjfbgjbifdbjaa
