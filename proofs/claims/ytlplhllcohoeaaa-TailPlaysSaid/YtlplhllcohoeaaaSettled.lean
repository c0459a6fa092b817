/-
  settled, of whatever is pending: every piece is the tail's, nothing stays.
-/
import Derived.Test.YtlplhllcohoeaaaPlay
import Derived.Deep.LoopGhost
namespace Go.Proofs.Ytlplhllcohoeaaa
open Go.RowKit
theorem pcells_get (ps : List (Int × Value)) (k : Nat) (p : Int × Value) (h : ps[k]? = some p) : (pcells ps)[k * 3]? = some (.string tl) ∧ (pcells ps)[k * 3 + 1]? = some (.int .i64 p.1) ∧ (pcells ps)[k * 3 + 2]? = some p.2 := by
  induction ps generalizing k with
  | nil => simp at h
  | cons q ps ih =>
    cases k with
    | zero =>
      simp at h
      subst h
      exact ⟨rfl, rfl, rfl⟩
    | succ k =>
      have h1 := ih k (by simpa using h)
      have e : ∀ j, (pcells (q :: ps))[(k + 1) * 3 + j]? = (pcells ps)[k * 3 + j]? := fun j => by
        rw [show (k + 1) * 3 + j = (k * 3 + j) + 3 by omega]
        rfl
      exact ⟨(e 0).trans h1.1, (e 1).trans h1.2.1, (e 2).trans h1.2.2⟩
theorem add_g (g i : Nat) : (⟨g, 0, none⟩ : Addr).add i = ⟨g, i, none⟩ := by unfold Addr.add; split <;> simp_all
theorem PieceAt.form {w : World} {S : Nat → Prop} {lo at_ : Int} {v : Value} (h : PieceAt w S lo at_ v) : ∃ A n c, v = .slice A n c := by
  obtain ⟨_, _, _, h3⟩ := h
  rcases h3 with h3 | ⟨a, l, c, e, _⟩
  · exact ⟨_, _, _, h3⟩
  · exact ⟨_, _, _, e⟩
section
variable {db mb : Nat} {d : Dv} {lo : Int} {N : Nat} {S : Nat → Prop} {F : Option Nat} {Ap : Option Addr} {np cp : Nat} {ps : List (Int × Value)}
theorem Dk.piece_at {w : World} (h : Dk w db mb d lo N S F Ap np cp ps) (k : Nat) (hk : k < np) : ∃ g at_ A n c, Ap = some ⟨g, 0, none⟩ ∧ g < w.heap.size ∧ w.cell? ⟨g, k * 3, none⟩ = some (.string tl) ∧ w.cell? ⟨g, k * 3 + 1, none⟩ = some (.int .i64 at_) ∧ w.cell? ⟨g, k * 3 + 2, none⟩ = some (.slice A n c) := by
  obtain ⟨p, hp⟩ := get_some ps k (by rw [h.pend.len]; exact hk)
  obtain ⟨h0, h1, h2⟩ := pcells_get ps k p hp
  have hr := h.pend.row
  rcases hr.2 with ⟨hv, hn⟩ | ⟨g, cap, cur, hv, hb, hg, _⟩
  · omega
  · injection hv with ha _ _
    subst ha
    have hc := hr.cells (g := g) rfl
    have c0 := hc _ _ h0
    have c1 := hc _ _ h1
    have c2 := hc _ _ h2
    rw [add_g] at c0 c1 c2
    obtain ⟨A, n, c, hv⟩ := (h.pend.all p (List.mem_of_getElem? hp)).form
    rw [hv] at c2
    exact ⟨g, p.1, A, n, c, rfl, (Array.getElem?_eq_some_iff.1 hg).1, c0, c1, c2⟩
theorem Dk.cleared {w : World} (h : Dk w db mb d lo N S F Ap np cp ps) : Dk (w.setCell ⟨db, 6, none⟩ (.slice none 0 0)) db mb d lo N S F none 0 0 [] ∧ Only w (w.setCell ⟨db, 6, none⟩ (.slice none 0 0)) S :=
  h.pended (Only.refl _ _) (fun _ hg => hg) h.lt ⟨World.ownsRow_nil .., rfl, by simp, by simp⟩ (fun _ _ _ => by simp) (Nat.le_refl _) (Nat.zero_le _)
theorem settled_any (w : World) (h : Dk w db mb d lo N S F Ap np cp ps) (hnp : np ≤ 1099511627776) :
    Calls Try.prog 26 #[.pointer (some ⟨db, 0, none⟩), .string tl] w fun e w' => e = .returned (.tuple #[]) ∧ Dk w' db mb d lo N S F none 0 0 [] ∧ Only w w' S := by
  obtain ⟨_, _, _, _, _, _, c6⟩ := h.cells
  have HH := Lib.hid h
  clear h
  go_enter Try.func26, Try.ntmps26
  go_wp2_with fail
  go_loopw [4, 12] (fun v i wr => v = .slice none 0 0 ∧ ∃ k : Nat, k ≤ np ∧ i = .int .i64 k ∧ Below w.heap.size w wr) (fun _ i _ => np - (intOf i).toNat)
  case atStart => exact ⟨rfl, 0, Nat.zero_le _, rfl, Below.refl _ _⟩
  case round =>
    obtain ⟨rfl, k, hk, rfl, hb⟩ := hrel
    have HU := Lib.hid (HH.out.up hb)
    have HB := Lib.hid hb
    by_cases hlt : k < np
    · obtain ⟨g, at_, A, n, c, rfl, hg, h0, h1, h2⟩ := HU.out.piece_at k hlt
      clear hb
      go_wp2_with fail
      go_roundw
      case rel => exact ⟨rfl, k + 1, by omega, by go_num, by have := HB.out; exact this.alloc this.size _⟩
      case measure => simp [intOf]; omega
    · obtain rfl : k = np := by omega
      have z6 := HU.out.froz 6
      obtain ⟨_, _, _, _, _, _, d6⟩ := HU.out.cells
      have fin := Lib.hid HU.out.cleared
      clear hb hlt
      go_wp2_with fail
      refine ⟨rfl, .tuple #[], ?_, rfl, fin.out.1, (Only.of_below HB.out).trans fin.out.2⟩
      first | rfl | (simp [Results, Try.f26]; done) | kernel_rfl
end
end Go.Proofs.Ytlplhllcohoeaaa
