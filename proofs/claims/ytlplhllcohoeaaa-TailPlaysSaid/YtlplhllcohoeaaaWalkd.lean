/-
  What lay answers and leaves.
-/
import Derived.Test.YtlplhllcohoeaaaWalkc
import Derived.Test.YtlplhllcohoeaaaRowb
import Derived.Test.YtlplhllcohoeaaaCopies
namespace Go.Proofs.Ytlplhllcohoeaaa
open Go.RowKit
theorem info5s : (Try.prog.info? 5).map (·.size) = some 1 := by
  obtain ⟨i0, hi, _, hz1, _⟩ := info_parts info5
  rw [hi]; simp [hz1]
theorem lay_any (w : World) (A : Option Addr) (n c : Nat) (l : List Int) (at_ : Nat) (Ab : Option Addr) (m cb : Nat) (b : List Int) (hA : OwnB w 0 A n c l) (hb : RdB w w.heap.size Ab b) (hm : b.length = m) (hm0 : 0 < m)
    (hsep : ∀ a, Ab = some a → ¬ inA A a.block) (h1 : n ≤ 1099511627776) (h2 : at_ + m ≤ 4398046511104) :
    Calls Try.prog 31 #[.slice A n c, .int .i64 at_, .slice Ab m cb] w fun e w' => (∃ A' n' c', e = .returned (.slice A' n' c') ∧ OwnB w' 0 A' n' c' (layL l at_ b) ∧ Fr w w' (inA A) (inA A')) := by
  obtain ⟨i0, hi, hz0, hz1, hz2⟩ := info_parts info5
  have q1 : IntKind.i64.wrap ((at_ : Int) + m) = ((at_ + m : Nat) : Int) := by rw [IntWalk.i64_in _ (by omega)]; omega
  have HA := Lib.hid hA
  have HB := Lib.hid hb
  have HS := Lib.hid hsep
  have HM := Lib.hid hm
  clear hA hb hsep hm
  go_enter Try.func31, Try.ntmps31
  go_wp2_with fail
  go_loopg [0] (at_ + m - n) (fun g v wr => ∃ (k : Nat) (A' : Option Addr) (c' : Nat), k + g = at_ + m - n ∧ v = .slice A' (n + k) c' ∧ Hid (OwnB wr 0 A' (n + k) c' (l ++ List.replicate k 0)) ∧ Hid (Fr w wr (inA A) (inA A')))
  case atStart => exact ⟨0, A, c, by omega, rfl, Lib.hid (by simpa using HA.out), Lib.hid (Fr.refl _ _)⟩
  case round =>
    obtain ⟨k, A', c', hk, rfl, RO, RF⟩ := hrel
    cases gk with
    | succ g =>
      have hlt : ((n + k : Nat) : Int) < ((at_ + m : Nat) : Int) := by omega
      go_wp2_with (at_builtin; go_loud (refine wpList_append_own_at _ rfl _ _ 22 rfl 0 5 i0 _ 1 1 Try.underlying22 hi hz0 hz1 hz2 rfl (by decide) _ _ _ rfl (RO.out.alloc _).2 ⟨wr.heap.size, 0, none⟩ 1 1 (bcells [0]) rfl rfl (newb_one _ 0 _ rfl) (bcells_one _) (by unfold maxLen; omega) (by omega) (Nat.zero_le _) ?_))
      intro v' w1 hown' hgrow _ hblk
      obtain ⟨A2, c2, rfl, hO2⟩ := OwnB.app RO.out.1 (K := [0]) rfl hown'
      have HF2 : Hid (Fr w w1 (inA A) (inA A2)) := Lib.hid (RF.out.trans (fr_app hgrow hblk))
      have HO2 : Hid (OwnB w1 0 A2 (n + (k+1)) c2 (l ++ List.replicate (k+1) 0)) := Lib.hid (by rw [List.replicate_succ', ← List.append_assoc]; exact hO2)
      clear hown' hgrow hblk hO2
      go_wp2_with fail
      go_roundg g
      case measure => omega
      case rel => exact ⟨k+1, A2, c2, by omega, rfl, HO2, HF2⟩
    | zero =>
      have hge : ¬ ((n + k : Nat) : Int) < ((at_ + m : Nat) : Int) := by omega
      obtain ⟨g, rfl, _, hg, hnc, hcm⟩ := RO.out.form (by omega)
      obtain ⟨x0, hx0⟩ := get_some b 0 (by have := HM.out; omega)
      obtain ⟨bb, bo, rfl, hbb, _⟩ := HB.out 0 x0 hx0
      clear hx0
      have HCAT := Lib.hid (show ¬ c' = at_ by omega)
      have hle : (at_ : Int) ≤ ((n + k : Nat) : Int) := by omega
      have hkeep : wr.heap[bb]? = w.heap[bb]? ∧ ¬ inA (some ⟨g, 0, Option.none⟩) bb := RF.out.beside bb hbb (HS.out _ rfl)
      have hRB : RdB wr wr.heap.size (some ⟨bb, bo, Option.none⟩) b := HB.out.keepS RF.out.size (fun a e => by cases e; exact hkeep.1)
      obtain ⟨cur, hcur, hcs⟩ : ∃ cur, wr.heap[g]? = some (.cells cur 5 (0, 0)) ∧ cur.size = c' := by
        rcases RO.out.2.2 with ⟨hv, _⟩ | ⟨g', cap, cur, hv, _, hgg, _, _, hsz, _⟩
        · cases hv
        · injection hv with ha _ hc
          injection ha with ha
          injection ha with ha
          subst ha; subst hc
          exact ⟨cur, hgg, by omega⟩
      have hmin : m = Nat.min m (n + k - at_) := (Nat.min_eq_left (by omega)).symm
      obtain ⟨w', hrun, hW, hFr⟩ := run_copy_fr (P := Try.prog) wr 22 22 3 5 g at_ (n + k - at_) (c' - at_) ⟨bb, bo, none⟩ m cb cur 5 (bcells b) Try.underlying22 info5s hcur (by rw [bcells, List.length_map, HM.out]; exact hmin) hRB.cells (by rw [bcells, List.length_map, HM.out]; omega) (bcells_one _)
      have HL : Hid (w'.heap[g]? = some (.cells (Go.splice cur.toList at_ (bcells b)).toArray 5 (0, 0))) := Lib.hid hW
      have HCU := Lib.hid hcur
      have HF' := Lib.hid hFr
      rw [show (bcells b).length = m by rw [bcells, List.length_map, HM.out]] at hrun
      clear hcur hkeep hRB hmin hW hFr
      go_wp2_with fail
      go_ret
      have hO := RO.out.splice HCU.out (b := b) (by have := HM.out; omega) HL.out
      refine ⟨some ⟨g, 0, Option.none⟩, n + k, c', rfl, ?_, RF.out.trans ⟨HF'.out.os, HF'.out.tape, HF'.out.output, HF'.out.size, fun x hx hne => ?_⟩⟩
      · have e : layL l at_ b = Go.splice (l ++ List.replicate k 0) at_ b := by
          unfold layL
          have h1 := HA.out.1
          have h2 := HM.out
          rw [show at_ + b.length - l.length = k by omega]
        rw [e]
        exact hO
      · obtain ⟨e1, _⟩ := HF'.out.beside x hx (fun e => hne (by subst e; rfl))
        exact ⟨e1, hne⟩
end Go.Proofs.Ytlplhllcohoeaaa
