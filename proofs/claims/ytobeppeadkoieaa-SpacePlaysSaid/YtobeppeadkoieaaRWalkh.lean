/-
  What the reference's marks answers.
-/
import Derived.Test.YtobeppeadkoieaaRWalkg
namespace Go.Proofs.Ytobeppeadkoieaa.Rg
open Go.RowKit
theorem newi_rd (w : World) (v : Int) (g : Nat) (hg : g = w.heap.size) : RdI (w.alloc (.cells #[.int .i64 v] 3)) (w.alloc (.cells #[.int .i64 v] 3)).heap.size (some ⟨g, 0, none⟩) [v] := by
  subst hg
  intro k x hx
  cases k with
  | zero =>
    have : v = x := by simpa using hx
    subst this
    exact ⟨w.heap.size, 0, rfl, by simp, cell_new _ _ _ 0⟩
  | succ k => simp at hx
set_option maxHeartbeats 1600000 in
theorem marks_any (A : Option Addr) (cap : Nat) (w : World) (ls : List (List R)) (hr : RdL w w.heap.size A ls) (hlen : ls.length = 2) (hm : ∀ l ∈ ls, l.length ≤ 100000) :
    Calls Try.prog 36 #[.slice A 2 cap] w fun e w' => (∃ A' n c, e = .returned (.slice A' n c) ∧ RdN w' A' n c (ls.foldl ends [0])) ∧ Below w.heap.size w w' := by
  have H := Lib.hid hlen; have HR := Lib.hid hr; have HM := Lib.hid hm
  clear hlen hr hm
  go_enter Try.func36, Try.ntmps36
  go_wp2_with fail
  go_loopw [3, 10] (fun vo vi wr => ∃ (k : Nat) (B : Option Addr) (n c : Nat), k ≤ 2 ∧ n ≤ 1 + 200000 * k ∧ vi = .int .i64 k ∧ vo = .slice B n c ∧ Hid (RdN wr B n c ((ls.take k).foldl ends [0])) ∧ Below w.heap.size w wr) (fun _ i _ => 2 - (intOf i).toNat)
  case atStart => exact ⟨0, _, 1, 1, Nat.zero_le _, by omega, rfl, rfl, Lib.hid ⟨rfl, newi_rd _ _ _ rfl, Nat.zero_le _⟩, (Below.refl _ _).alloc (Nat.le_refl _) _⟩
  case round =>
    obtain ⟨k, B, n, c, hk, hnk, rfl, rfl, RO, hbl⟩ := hrel
    have HBel := Lib.hid hbl
    by_cases hlt : k < 2
    · obtain ⟨l, hl⟩ := get_some ls k (by have := H.out; omega)
      obtain ⟨b, off, Ak, ck, rfl, hb', h0, hrd⟩ := HR.out.below hbl (Nat.le_refl _) k l hl
      have HF : Hid ((ls.take (k+1)).foldl ends [0] = ends ((ls.take k).foldl ends [0]) l) := Lib.hid (by rw [take_snoc ls k l hl, List.foldl_append]; rfl)
      have hll := HM.out l (List.mem_of_getElem? hl)
      have HRd : Hid (Rd w w.heap.size Ak l) := Lib.hid (hrd.keep fun p hp => (hbl.cell hp).symm)
      clear hrd hl hbl
      generalize (ls.take k).foldl ends [0] = o0 at *
      have hk2 : (k : Int) < 2 := by omega
      go_wp2_with fail
      go_loopw [3, 6] (fun vo vi wr => ∃ (j : Nat) (B : Option Addr) (n c : Nat), j ≤ l.length ∧ n ≤ 1 + 200000 * k + 2 * j ∧ vi = .int .i64 j ∧ vo = .slice B n c ∧ Hid (RdN wr B n c (ends o0 (l.take j))) ∧ Below w.heap.size w wr) (fun _ i _ => l.length - (intOf i).toNat)
      case atStart => exact ⟨0, B, n, c, Nat.zero_le _, by omega, rfl, rfl, RO, HBel.out⟩
      case round =>
        obtain ⟨j, B, n, c, hj, hnj, rfl, rfl, RO, hbl⟩ := hrel
        have HBel := Lib.hid hbl
        by_cases hlt2 : j < l.length
        · obtain ⟨s, hs⟩ := get_some l j hlt2
          obtain ⟨b2, off2, rfl, hb2, c0, c1⟩ := HRd.out.below hbl (Nat.le_refl _) j s hs
          have HE : Hid (ends o0 (l.take (j+1)) = putL (putL (ends o0 (l.take j)) s.1) s.2) := Lib.hid (by rw [take_snoc l j s hs, ends_snoc])
          have hsz := hbl.size
          have hb3 : b2 < wr.heap.size := by omega
          clear hs hbl
          have hl1 : n + 1 ≤ 10000000 := by omega
          go_wp2_with fail
          have j0 : (0 : Int) ≤ (j : Int) := Int.natCast_nonneg _
          have j1 : (j : Int) < (l.length : Int) := by omega
          go_region_held3 (fun w' => w'.cell? ⟨b2, off2 + j * 2, none⟩ = some (.int .i64 s.1) ∧ w'.cell? ⟨b2, off2 + j * 2 + 1, none⟩ = some (.int .i64 s.2))
            (first
              | go_keep
              | (exact ⟨(hp2.cell (p := ⟨b2, off2 + j * 2, none⟩) (Nat.lt_of_lt_of_le hb3 hp1.size)).trans ((hp1.cell (p := ⟨b2, off2 + j * 2, none⟩) hb3).trans c0), (hp2.cell (p := ⟨b2, off2 + j * 2 + 1, none⟩) (Nat.lt_of_lt_of_le hb3 hp1.size)).trans ((hp1.cell (p := ⟨b2, off2 + j * 2 + 1, none⟩) hb3).trans c1)⟩)
              | (exact ⟨(hp1.cell (p := ⟨b2, off2 + j * 2, none⟩) hb3).trans c0, (hp1.cell (p := ⟨b2, off2 + j * 2 + 1, none⟩) hb3).trans c1⟩))
            (first
              | (go_at_call_of 42 (Value.slice B n c); refine (put_any B n c s.1 wr.drew (ends o0 (l.take j)) RO.out.1 (RO.out.2.1.drewN 1) (by omega)).mono ?_; rintro e wp1 ⟨⟨A1, n1, c1', rfl, hr1⟩, hp1⟩)
              | (go_at_call 42; refine (put_any A1 n1 c1' s.2 _ (putL (ends o0 (l.take j)) s.1) hr1.1 hr1.2.1 (by have := putL_len (ends o0 (l.take j)) s.1; have := hr1.1; have := RO.out.1; omega)).mono ?_; rintro e wp2 ⟨⟨A2, n2, c2', rfl, hr2⟩, hp2⟩))
          have HR2 := Lib.hid hr2
          have HB2 : Hid (Below w.heap.size w wp2) := Lib.hid (((belowDrewN HBel.out 1).trans (hp1.mono hsz)).trans (hp2.mono (Nat.le_trans hsz hp1.size)))
          have hn2 : n2 ≤ n + 2 := by
            have a1 := putL_len (ends o0 (l.take j)) s.1
            have a2 := putL_len (putL (ends o0 (l.take j)) s.1) s.2
            have a3 := hr2.1
            have a4 := RO.out.1
            omega
          clear hr1 hr2 hp1 hp2
          go_wp2_with fail
          go_roundw
          case rel => exact ⟨j+1, A2, n2, c2', by omega, by omega, by go_num, rfl, by rw [HE.out]; exact HR2, HB2.out⟩
          case measure => simp [intOf]; omega
        · obtain rfl : j = l.length := by omega
          have HG : Hid (RdN wr B n c ((ls.take (k+1)).foldl ends [0])) := Lib.hid (by rw [HF.out]; have := RO.out; rwa [List.take_length] at this)
          clear hbl
          go_wp2_with fail
          go_roundw
          case rel => exact ⟨k+1, B, n, c, by omega, by omega, by go_num, rfl, HG, HBel.out⟩
          case measure => simp [intOf]; omega
    · obtain rfl : k = 2 := by omega
      have HG : Hid (RdN wr B n c (ls.foldl ends [0])) := Lib.hid (by have := RO.out; rwa [List.take_of_length_le (by have := H.out; omega)] at this)
      clear hbl
      go_wp2_with fail
      go_ret
      exact ⟨⟨_, _, _, rfl, HG.out⟩, HBel.out⟩
end Go.Proofs.Ytobeppeadkoieaa.Rg
