/-
  What index.New, Read and look answer and leave.
-/
import Derived.Test.YtpnajbpakeimiaaDRead
import Derived.Test.YtpnajbpakeimiaaNMap
import Derived.Test.YtpnajbpakeimiaaECount
namespace Go.Proofs.Ytpnajbpakeimiaa
open Go.RowKit
/-- An index in memory: its struct at block xb, its counts at block cb. -/
structure IxAt (w : World) (xb cb db : Nat) (size rd : Int) (n : Nat) (u : Int → Option Int) : Prop where
  head : w.heap[xb]? = some (.cells #[.pointer (some ⟨db, 0, none⟩), .string tl, .int .i64 size, .int .i64 rd, .map (some cb)] 56 (0, 0))
  map : CM w cb n u
def Ix (xb cb : Nat) (g : Nat) : Prop := g = xb ∨ g = cb
section
variable {w : World} {xb cb db : Nat} {size rd : Int} {n : Nat} {u : Int → Option Int}
theorem IxAt.cells (h : IxAt w xb cb db size rd n u) : w.cell? ⟨xb, 0, none⟩ = some (.pointer (some ⟨db, 0, none⟩)) ∧ w.cell? ⟨xb, 1, none⟩ = some (.string tl) ∧ w.cell? ⟨xb, 2, none⟩ = some (.int .i64 size) ∧ w.cell? ⟨xb, 3, none⟩ = some (.int .i64 rd) ∧ w.cell? ⟨xb, 4, none⟩ = some (.map (some cb)) :=
  ⟨cell_of_row _ _ 0 _ 56 (0, 0) h.head, cell_of_row _ _ 1 _ 56 (0, 0) h.head, cell_of_row _ _ 2 _ 56 (0, 0) h.head, cell_of_row _ _ 3 _ 56 (0, 0) h.head, cell_of_row _ _ 4 _ 56 (0, 0) h.head⟩
theorem IxAt.froz (h : IxAt w xb cb db size rd n u) (j : Nat) : w.frozen? ⟨xb, j, none⟩ = false := by
  unfold World.frozen?
  rw [h.head]
  simp
theorem IxAt.lt (h : IxAt w xb cb db size rd n u) : xb < w.heap.size := (Array.getElem?_eq_some_iff.1 h.head).1
theorem IxAt.ne (h : IxAt w xb cb db size rd n u) : cb ≠ xb := by
  rintro rfl
  obtain ⟨es, c, hh⟩ := h.map.heap
  rw [h.head] at hh
  cases hh
theorem IxAt.keep {w' : World} (h : IxAt w xb cb db size rd n u) (h1 : w'.heap[xb]? = w.heap[xb]?) (h2 : w'.heap[cb]? = w.heap[cb]?) : IxAt w' xb cb db size rd n u := ⟨h1.trans h.head, h.map.same h2⟩
theorem IxAt.up {w' : World} (h : IxAt w xb cb db size rd n u) (hb : Below w.heap.size w w') : IxAt w' xb cb db size rd n u := h.keep (hb.block _ h.lt) (hb.block _ h.map.lt)
theorem IxAt.more (h : IxAt w xb cb db size rd n u) {n' : Nat} (hn : n ≤ n') : IxAt w xb cb db size rd n' u := ⟨h.head, h.map.mono hn⟩
theorem IxAt.read (h : IxAt w xb cb db size rd n u) (r : Int) : IxAt (w.setCell ⟨xb, 3, none⟩ (.int .i64 r)) xb cb db size r n u :=
  ⟨by rw [heap_setCell_same _ _ _ _ _ _ h.head]; rfl, h.map.same (heap_setCell_other _ _ _ _ h.ne)⟩
end
theorem New_index (w : World) (db : Nat) (size : Int) (h0 : 0 ≤ size) (h1 : size ≤ 1048576) :
    Calls Try.prog 15 #[.pointer (some ⟨db, 0, none⟩), .string tl, .int .i64 size] w fun e w' => (∃ xb cb, e = .returned (.tuple #[.pointer (some ⟨xb, 0, none⟩), .int .i64 0]) ∧ IxAt w' xb cb db size 0 0 (fun _ => none) ∧ w.heap.size ≤ xb ∧ w.heap.size ≤ cb) ∧ Below w.heap.size w w' := by
  have hmm := @run_makeMap Try.prog
  go_enter Try.func15, Try.ntmps15
  go_wp2_with fail
  go_ret2
  have e1 : (w.alloc (Obj.map #[] 0)).heap.size = w.heap.size + 1 := by simp
  refine ⟨⟨w.heap.size + 1, w.heap.size, rfl, ⟨?_, (CM.made w).kept (World.grownBy_alloc _ _ none) (by simp)⟩, by omega, Nat.le_refl _⟩, ((Below.refl _ _).alloc (Nat.le_refl _) _).alloc (by simp) _⟩
  rw [← e1]; exact heap_alloc_new _ _
theorem New_no (w : World) (v : Value) (s : ByteArray) (size : Int) (hv : v = .pointer none ∨ (∃ a, v = .pointer (some a)) ∧ (size < 0 ∨ 1048576 < size)) :
    Calls Try.prog 15 #[v, .string s, .int .i64 size] w fun e w' => e = .returned (.tuple #[.pointer none, .int .i64 1]) ∧ w = w' := by
  rcases hv with rfl | ⟨⟨a, rfl⟩, h⟩
  · go_enter Try.func15, Try.ntmps15
    go_wp2_with fail
    go_ret2
    exact ⟨rfl, rfl⟩
  · by_cases h0 : size < 0
    · clear h
      go_enter Try.func15, Try.ntmps15
      go_wp2_with fail
      go_ret2
      exact ⟨rfl, rfl⟩
    · have h1 : 1048576 < size := by omega
      clear h
      go_enter Try.func15, Try.ntmps15
      go_wp2_with fail
      go_ret2
      exact ⟨rfl, rfl⟩
theorem IRead_any (w : World) {xb cb db : Nat} {size rd : Int} {n : Nat} {u : Int → Option Int} (h : IxAt w xb cb db size rd n u) :
    Calls Try.prog 17 #[.pointer (some ⟨xb, 0, none⟩)] w fun e w' => e = .returned (.int .i64 rd) ∧ w = w' := by
  obtain ⟨_, _, _, c3, _⟩ := h.cells
  clear h
  go_enter Try.func17, Try.ntmps17
  go_wp2_with fail
  go_ret
  exact ⟨rfl, rfl⟩
theorem IRead_nil (w : World) : Calls Try.prog 17 #[.pointer none] w fun e w' => e = .returned (.int .i64 0) ∧ w = w' := by
  go_enter Try.func17, Try.ntmps17
  go_wp2_with fail
  go_ret
  exact ⟨rfl, rfl⟩
section
variable {db mb : Nat} {d : Dv} {lo : Int} {N : Nat} {S : Nat → Prop} {F : Option Nat} {xb cb : Nat} {size rd : Int} {n : Nat} {u : Int → Option Int}
theorem look_live (w : World) {fb : Nat} (h : Dk w db mb d lo N S (some fb) none 0 0 []) (hd : d.down = false) (f : Fl) (hdf : d.f = some f) (hI : IxAt w xb cb db size rd n u) (hB : Byt f.now) (fr to_ : Nat) (hlt : fr < to_) (hto : to_ ≤ f.now.length) (hr0 : 0 ≤ rd) (hr1 : rd ≤ 1099511627776) :
    Calls Try.prog 22 #[.pointer (some ⟨xb, 0, none⟩), .int .i64 fr, .int .i64 to_] w fun e w' => e = .returned (.tuple #[.int .i64 (cnt ((f.now.drop fr).take (to_ - fr))), .int .i64 0]) ∧ IxAt w' xb cb db size (rd + (to_ - fr : Nat)) n u ∧ Fr w w' (Ix xb cb) (Ix xb cb) := by
  obtain ⟨c0, c1, _, c3, _⟩ := hI.cells
  have hfl := h.fat
  have hxl := hI.lt
  obtain ⟨f', An, cn, As, cs, q1, hf, _⟩ := hfl
  obtain rfl : f' = f := by rw [hdf] at q1; injection q1 with q1; exact q1.symm
  have hln := hf.ln
  have HR := Read_file w.drew (h.drewN 1) hd f' hdf fr (to_ - fr) (by omega) (by omega)
  have q2 : IntKind.i64.wrap ((to_ : Int) - fr) = ((to_ - fr : Nat) : Int) := by rw [IntWalk.i64_in _ (by omega)]; omega
  have q3 : IntKind.i64.wrap (rd + ((to_ - fr : Nat) : Int)) = rd + ((to_ - fr : Nat) : Int) := IntWalk.i64_in _ (by omega)
  have HL : Hid (((f'.now.drop fr).take (to_ - fr)).length = to_ - fr) := Lib.hid (by rw [List.length_take, List.length_drop]; omega)
  have HBy : Hid (Byt ((f'.now.drop fr).take (to_ - fr))) := Lib.hid ((hB.drop _).take _)
  have HI := Lib.hid hI
  have hns : w.drew.heap.size = w.heap.size := rfl
  generalize (f'.now.drop fr).take (to_ - fr) = l at *
  generalize to_ - fr = k at *
  clear h hI hf hdf q1 hB
  go_enter Try.func22, Try.ntmps22
  go_wp2_with fail
  go_region_held3 (fun w' => w'.cell? ⟨xb, 0, none⟩ = some (.pointer (some ⟨db, 0, none⟩)) ∧ w'.cell? ⟨xb, 1, none⟩ = some (.string tl)) (first | go_keep | (go_split_ands; refine ⟨?_, ?_⟩; (exact (hp1.cell (p := ⟨xb, 0, none⟩) hxl).trans c0); (exact (hp1.cell (p := ⟨xb, 1, none⟩) hxl).trans c1)))
    ((go_at_call_of 32 (Value.pointer (some ⟨db, 0, Option.none⟩)); refine HR.mono ?_; rintro e wp1 ⟨⟨g1, k1, rfl, hO1⟩, hp1⟩))
  have hp1' : Below w.heap.size w wp1 := (belowDrewN (Below.refl w.heap.size w) 1).trans hp1
  have HP := Lib.hid hp1'
  have HO := Lib.hid hO1
  have c3' := (hp1.cell (p := ⟨xb, 3, none⟩) hxl).trans c3
  have HIp : Hid (IxAt wp1 xb cb db size rd n u) := Lib.hid (HI.out.up hp1')
  have f3 := HIp.out.froz 3
  clear hp1 hp1' hO1 HR c0 c1 c3
  go_wp2_with fail
  have HI2 : Hid (IxAt (wp1.setCell ⟨xb, 3, none⟩ (.int .i64 (rd + (k : Int)))) xb cb db size (rd + (k : Int)) n u) := Lib.hid (HIp.out.read _)
  have HF2 : Hid (Fr w (wp1.setCell ⟨xb, 3, none⟩ (.int .i64 (rd + (k : Int)))) (Ix xb cb) (Ix xb cb)) := Lib.hid ((Fr.of_below HP.out).trans (fr_set _ (Or.inl rfl : Ix xb cb xb)))
  have HRB : Hid (RdB (wp1.setCell ⟨xb, 3, none⟩ (.int .i64 (rd + (k : Int)))) (wp1.setCell ⟨xb, 3, none⟩ (.int .i64 (rd + (k : Int)))).heap.size (some ⟨g1, 0, Option.none⟩) l) := Lib.hid (by
    obtain ⟨cs1, hcs, _⟩ := own_cells HO.out
    refine HO.out.rd.keepS (by simp) (fun a e => ?_)
    cases e
    exact heap_setCell_other _ _ _ _ (fun e2 => by
      have h3 := HIp.out.head
      simp only at e2
      rw [← e2, hcs] at h3
      injection h3 with h3
      injection h3 with _ h4 _
      exact absurd h4 (by decide)))
  generalize wp1.setCell ⟨xb, 3, none⟩ (.int .i64 (rd + (k : Int))) = w3 at *
  refine (Count_any (some ⟨g1, 0, Option.none⟩) k k1 _ l HL.out HBy.out HRB.out).mono ?_
  rintro e w4 ⟨rfl, hb4⟩
  have HB4 := Lib.hid hb4
  clear hb4
  go_wp2_with fail
  go_ret2
  exact ⟨rfl, HI2.out.up HB4.out, HF2.out.trans (Fr.of_below HB4.out)⟩
theorem look_down (w : World) (h : Dk w db mb d lo N S F none 0 0 []) (hd : d.down = true) (hI : IxAt w xb cb db size rd n u) (fr to_ : Int) (h0 : 0 ≤ fr) (h1 : fr ≤ 1099511627776) (h2 : 0 ≤ to_) (h3 : to_ ≤ 1099511627776) :
    Calls Try.prog 22 #[.pointer (some ⟨xb, 0, none⟩), .int .i64 fr, .int .i64 to_] w fun e w' => e = .returned (.tuple #[.int .i64 0, .int .i64 8]) ∧ Below w.heap.size w w' := by
  obtain ⟨c0, c1, _, _, _⟩ := hI.cells
  have q2 : IntKind.i64.wrap (to_ - fr) = to_ - fr := IntWalk.i64_in _ (by omega)
  have HR := Read_down w.drew (h.drewN 1) hd fr (to_ - fr)
  clear h hI
  go_enter Try.func22, Try.ntmps22
  go_wp2_with fail
  go_region_held3 (fun w' => w'.cell? ⟨xb, 0, none⟩ = some (.pointer (some ⟨db, 0, none⟩)) ∧ w'.cell? ⟨xb, 1, none⟩ = some (.string tl)) (first | go_keep)
    ((go_at_call_of 32 (Value.pointer (some ⟨db, 0, Option.none⟩)); refine HR.mono ?_; rintro e wp1 ⟨rfl, rfl⟩))
  clear HR
  go_wp2_with fail
  go_ret2
  exact ⟨rfl, belowDrewN (Below.refl _ _) 1⟩
end
end Go.Proofs.Ytpnajbpakeimiaa
