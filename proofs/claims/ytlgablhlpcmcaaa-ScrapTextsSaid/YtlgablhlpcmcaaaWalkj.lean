/-
  That the document's example (awake) is true.
-/
import Derived.Test.YtlgablhlpcmcaaaWalki
import Derived.Laws.BytesArg
import Derived.Lib.SlBytesConst
namespace Go.Proofs.Ytlgablhlpcmcaaa
open Go.RowKit
theorem Rd.lit (w : World) (l : List S) : Rd (w.alloc (.cells (cells l).toArray 31)) (w.alloc (.cells (cells l).toArray 31)).heap.size (some ⟨w.heap.size, 0, none⟩) l := by
  intro k s hs
  obtain ⟨c0, c1, c2⟩ := cells_get l k s hs
  refine ⟨w.heap.size, 0, rfl, by simp, ?_, ?_, ?_⟩
  · rw [cell_new, Nat.zero_add]; simpa using c0
  · rw [cell_new, Nat.zero_add]; simpa using c1
  · rw [cell_new, Nat.zero_add]; simpa using c2
theorem RdB.lit (w : World) (l : List Int) (f : Nat × Nat) (g : Nat) (hg : g = w.heap.size) : RdB (w.alloc (.cells (bcells l).toArray 5 f)) (w.alloc (.cells (bcells l).toArray 5 f)).heap.size (some ⟨g, 0, none⟩) l := by
  subst hg
  intro k s hs
  refine ⟨w.heap.size, 0, rfl, by simp, ?_⟩
  rw [cell_of_row _ _ (0 + k) _ 5 f (heap_alloc_new w _), Nat.zero_add]
  simp [bcells, hs]
theorem RdBL.two {w : World} {A1 A2 : Option Addr} {n1 c1 n2 c2 : Nat} {l1 l2 : List Int} (h1 : RdB w w.heap.size A1 l1) (hn1 : l1.length = n1) (hc1 : n1 ≤ c1) (hm1 : c1 ≤ maxLen) (h2 : RdB w w.heap.size A2 l2) (hn2 : l2.length = n2) (hc2 : n2 ≤ c2) (hm2 : c2 ≤ maxLen) (T : TypeId) (g : Nat) (hg : g = w.heap.size) :
    RdBL (w.alloc (.cells #[.slice A1 n1 c1, .slice A2 n2 c2] T)) (w.alloc (.cells #[.slice A1 n1 c1, .slice A2 n2 c2] T)).heap.size (some ⟨g, 0, none⟩) [l1, l2] := by
  subst hg; subst hn1; subst hn2
  intro k l' hl
  match k, hl with
  | 0, hl =>
    simp at hl; subst hl
    exact ⟨w.heap.size, 0, A1, c1, rfl, by simp, by rw [cell_new]; rfl, hc1, hm1, (h1.alloc (Nat.le_refl _) _).more (by simp)⟩
  | 1, hl =>
    simp at hl; subst hl
    exact ⟨w.heap.size, 0, A2, c2, rfl, by simp, by rw [cell_new]; rfl, hc2, hm2, (h2.alloc (Nat.le_refl _) _).more (by simp)⟩
  | k+2, hl => simp at hl

def ex1 : List S := [⟨0, 0, 10⟩]
def ex2 : List S := [⟨1, 0, 1⟩]
def ex3 : List S := [⟨0, 0, 3⟩, ⟨1, 0, 1⟩, ⟨0, 5, 5⟩]
def src1 : List Int := [48, 49, 50, 51, 52, 53, 54, 55, 56, 57]
def src2 : List Int := [120]
def txt3 : List Int := [48, 49, 50, 120, 53, 54, 55, 56, 57]
theorem may_ex1 : MayP ex1 := ⟨fun s hs => by simp [ex1] at hs; subst hs; unfold okS; simp, by simp [ex1, tot]⟩
theorem may_ex2 : MayP ex2 := ⟨fun s hs => by simp [ex2] at hs; subst hs; unfold okS; simp, by simp [ex2, tot]⟩
theorem may_ex3 : MayP ex3 := ⟨fun s hs => by simp [ex3] at hs; rcases hs with rfl | rfl | rfl <;> (unfold okS; simp), by simp [ex3, tot]⟩
theorem splE : spliceE ex1 3 2 ex2 = 0 := by
  unfold spliceE; rw [if_neg (by simpa using ⟨may_ex1, may_ex2⟩), if_neg (by simp [ex1, tot]), if_neg (by simp [ex1, ex2, tot])]
theorem splL : spliceL ex1 3 2 ex2 = ex3 := by
  unfold spliceL; rw [if_pos splE]; rfl
theorem sizE : sizeL ex3 = 9 := by
  unfold sizeL; rw [if_pos may_ex3]; rfl
theorem txtE : TextE [src1, src2] ex3 = 0 := by
  unfold TextE; rw [if_pos may_ex3]; rfl
theorem txtL : TextL [src1, src2] ex3 = txt3 := by
  rw [TextL_ok txtE]; rfl
theorem rd_ex1 (w : World) : Rd (w.alloc (.cells #[.int .i64 0, .int .i64 0, .int .i64 10] 31)) (w.alloc (.cells #[.int .i64 0, .int .i64 0, .int .i64 10] 31)).heap.size (some ⟨w.heap.size, 0, none⟩) ex1 := Rd.lit w ex1
theorem rd_ex2 (w : World) (g : Nat) (hg : g = w.heap.size) : Rd (w.alloc (.cells #[.int .i64 1, .int .i64 0, .int .i64 1] 31)) (w.alloc (.cells #[.int .i64 1, .int .i64 0, .int .i64 1] 31)).heap.size (some ⟨g, 0, none⟩) ex2 := by subst hg; exact Rd.lit w ex2

theorem awake_any (w : World) : Calls Try.prog 15 #[] w fun e w' => e = .returned (.bool true) ∧ Below w.heap.size w w' := by
  go_enter Try.func15, Try.ntmps15
  go_wp2_with fail
  refine (Splice_any (some ⟨w.heap.size, 0, none⟩) 1 1 3 2 (some ⟨w.heap.size + 1, 0, none⟩) 1 1 _ ex1 rfl (((rd_ex1 w).alloc (Nat.le_refl _) _).more (by simp)) (by decide) (by decide) (by decide) (by decide) (by decide) ex2 rfl (rd_ex2 _ _ (by simp)) (by decide)).mono ?_
  rintro e w1 ⟨⟨A', m, c, rfl, hown⟩, hb⟩
  rw [splL] at hown
  rw [splE]
  have HB := Lib.hid ((((Below.refl w.heap.size w).alloc (Nat.le_refl _) _).alloc (by simp) _).trans (hb.mono (by simp; omega)))
  have hm : m = 3 := by have := hown.1; simpa [ex3] using this.symm
  subst hm
  have HO := Lib.hid hown
  clear hb hown
  have kc := fun (w : World) (C : Array Value) (n c : Nat) => Lib.run_convert_bytes_const (P := Try.prog) w 34 5 C n c Try.underlying34 Try.underlying5
  have kc2 := fun (X : Obj) (C : Array Value) (n c : Nat) => kc (w1.alloc X) C n c
  simp only [World.size_alloc] at kc2
  go_wp2_with fail
  refine (Text_any A' 3 c (some ⟨w1.heap.size + 1 + 1, 0, none⟩) 2 2 _ ex3 [src1, src2] rfl ((((HO.out.rd.alloc (Nat.le_refl _) _).alloc (by simp) _).alloc (by simp; omega) _).more (by simp; omega)) (by omega) rfl ?_ (by omega)).mono ?_
  · refine RdBL.two (((RdB.lit w1 src1 _ _ rfl).alloc (Nat.le_refl _) _).more (by simp)) rfl (by decide) (by decide) (RdB.lit _ src2 _ _ (by simp)) rfl (by decide) (by decide) _ _ (by simp)
  rintro e w2 ⟨⟨A2, m2, c2, rfl, hown2⟩, hb2⟩
  rw [txtL] at hown2
  rw [txtE]
  have hb2' := ((((Below.refl w1.heap.size w1).alloc (Nat.le_refl _) (.cells (bcells src1).toArray 5 (10, 11))).alloc (by simp) (.cells (bcells src2).toArray 5 (1, 2))).alloc (by simp; omega) (.cells #[.slice (some ⟨w1.heap.size, 0, none⟩) 10 10, .slice (some ⟨w1.heap.size + 1, 0, none⟩) 1 1] 34)).trans (hb2.mono (by simp; omega))
  have hm2 : m2 = 9 := by have := hown2.1; simpa [txt3] using this.symm
  subst hm2
  obtain ⟨g, off, rfl, hg, _⟩ := hown2.rd 0 48 rfl
  have hs := run_convert_bytes_arg (P := Try.prog) w2 34 5 Try.underlying34 Try.underlying5 g off 9 c2 txt3 rfl (fun i hi => by
    obtain ⟨v, hv⟩ := get_some txt3 i hi
    obtain ⟨b', off', e, hb, hc⟩ := hown2.rd i v hv
    cases e
    rw [hc, List.getD_eq_getElem?_getD, hv]; rfl) 9 Try.underlying9
  have hstr : strOfNums txt3 = ⟨#[48, 49, 50, 120, 53, 54, 55, 56, 57]⟩ := rfl
  rw [hstr] at hs
  have HB2 := Lib.hid (below_up HB.out hb2')
  have HR2 := Lib.hid (HO.out.rd.up hb2')
  clear hown2 hb2 hb2' kc kc2
  go_wp2_with fail
  refine (Size_any A' 3 c _ ex3 rfl HR2.out (by omega)).mono ?_
  rintro e w3 ⟨rfl, hb3⟩
  rw [sizE]
  have HB3 := Lib.hid (below_up HB2.out hb3)
  clear hb3
  go_wp2_with fail
  go_ret
  exact ⟨rfl, HB3.out⟩
end Go.Proofs.Ytlgablhlpcmcaaa
