/-
  What Keep leaves.
-/
import Derived.Test.YtobeppeadkoieaaSpa
namespace Go.Proofs.Ytobeppeadkoieaa
open Go.RowKit
theorem RdI.kp {w w' : World} {B sb : Nat} {L A A' : Option Addr} {l : List Int} (h : RdI w B L l) (hk : Kp w w' sb A A') (hB : B ≤ w.heap.size) (hL : ∀ b, L.map Addr.block = some b → sb < b ∧ A.map Addr.block ≠ some b) : RdI w' B L l := by
  intro k v hv
  obtain ⟨b, off, rfl, hb, hc⟩ := h k v hv
  obtain ⟨h1, h2⟩ := hL b rfl
  obtain ⟨e, _⟩ := hk b (by omega) h1 h2
  exact ⟨b, off, rfl, hb, (World.cell?_of_block (w := w) (a := ⟨b, off + k, none⟩) e).trans hc⟩
set_option maxHeartbeats 1000000 in
theorem Keep_any (w : World) (sb bu bw : Nat) (res : Int) (u wt : Int → Bool) (A : Option Addr) (c : Nat) (tk : List Int) (N : Nat) (h : Sp w sb bu bw res u wt A c tk N) (L : Option Addr) (n cl : Nat) (l : List Int) (hl : l.length = n) (hr : RdI w w.heap.size L l)
    (hL : ∀ b, L.map Addr.block = some b → sb < b ∧ A.map Addr.block ≠ some b) (hin : ∀ v ∈ l, res ≤ v ∧ v < 1048576) (hres : 0 ≤ res) (hN : N + n < 1099511627776) :
    Calls Try.prog 22 #[.pointer (some ⟨sb, 0, none⟩), .slice L n cl] w fun e w' => e = .returned (.int .i64 0) ∧ Sp w' sb bu bw res (fun j => decide (j ∈ l)) (fun _ => false) none 0 [] (N + n) ∧ Below bu w w' ∧ Kp w w' sb A none := by
  have c0 := h.c0
  have c1 := h.c1
  have l1 := h.l1
  have l2 := h.l2
  have HS := Lib.hid h
  have HR := Lib.hid hr
  have H := Lib.hid hl
  have HL := Lib.hid hL
  have HI := Lib.hid hin
  clear h hr hl hL hin
  go_enter Try.func22, Try.ntmps22
  go_wp2_with fail
  go_loopw [13] (fun i wr => ∃ k : Nat, k ≤ n ∧ i = .int .i64 k ∧ w = wr) (fun i _ => n - (intOf i).toNat)
  case atStart => exact ⟨0, Nat.zero_le _, rfl, rfl⟩
  case round =>
    obtain ⟨k, hk, rfl, rfl⟩ := hrel
    by_cases hlt : k < n
    · obtain ⟨s, hs⟩ := get_some l k (by rw [H.out]; exact hlt)
      obtain ⟨b, off, rfl, hblt, hc0⟩ := HR.out k s hs
      obtain ⟨hi0, hi1⟩ := HI.out s (List.mem_of_getElem? hs)
      go_wp2_with fail
      go_roundw
      case rel => exact ⟨k+1, by omega, by go_num, trivial⟩
      case measure => simp [intOf]; omega
    · obtain rfl : n = k := by omega
      clear hlt
      obtain ⟨w1, hrun, hu1, hg1⟩ := HS.out.hu.empty mty 0
      have h1 : Sp w1 sb bu bw res (fun _ => false) wt A c tk N := HS.out.turned (.inl rfl) hg1 hu1 (HS.out.hw.kept hg1 (by intro hh; injection hh with hh; omega))
      have HB : Hid (Below bu w w1) := Lib.hid ((Below.refl bu w).grown hg1 (Nat.le_of_lt (Nat.lt_trans l1 (Nat.lt_trans l2 HS.out.lt))) (fun k hk => by injection hk with hk; omega))
      have HK : Hid (Kp w w1 sb A A) := Lib.hid (Kp.grown A hg1 (by omega))
      have HS1 := Lib.hid h1
      clear h1 hu1 hg1
      go_wp2_with fail
      go_loopw [34] (fun i wr => ∃ k : Nat, k ≤ n ∧ i = .int .i64 k ∧ Sp wr sb bu bw res (fun j => decide (j ∈ l.take k)) wt A c tk (N+k) ∧ Below bu w wr ∧ Kp w wr sb A A) (fun i _ => n - (intOf i).toNat)
      case atStart => exact ⟨0, Nat.zero_le _, rfl, by simpa using HS1.out, HB.out, HK.out⟩
      case round =>
        clear HS1 HB HK
        obtain ⟨k, hk, rfl, hS, hb, hKp⟩ := hrel
        have c1 := hS.c1
        by_cases hlt : k < n
        · obtain ⟨s, hs⟩ := get_some l k (by rw [H.out]; exact hlt)
          obtain ⟨b, off, rfl, hblt, hc0⟩ := (HR.out.kp hKp (Nat.le_refl _) HL.out) k s hs
          obtain ⟨hi0, hi1⟩ := HI.out s (List.mem_of_getElem? hs)
          have hI : I64 s := ⟨by omega, by omega⟩
          obtain ⟨w2, hrun, hu2, hg2⟩ := hS.hu.store mty (show N + k < maxLen by unfold maxLen; omega) hI
          have h2 : Sp w2 sb bu bw res (upd (fun j => decide (j ∈ l.take k)) s true) wt A c tk (N+k+1) := hS.turned (.inl rfl) hg2 hu2 ((hS.hw.kept hg2 (by intro hh; injection hh with hh; omega)).mono (Nat.le_succ _))
          have hsz := hb.size
          have hlt' := HS.out.lt
          have HB2 : Hid (Below bu w w2) := Lib.hid (hb.grown hg2 (by omega) (fun k hk => by injection hk with hk; omega))
          have HK2 : Hid (Kp w w2 sb A A) := Lib.hid (hKp.trans (Kp.grown A hg2 (by omega)) hsz)
          have HS2 := Lib.hid h2
          have E : Hid (upd (fun j => decide (j ∈ l.take k)) s true = fun j => decide (j ∈ l.take (k+1))) := Lib.hid (by
            funext j
            rw [take_snoc l k s hs]
            by_cases hj : j = s
            · subst hj; simp [upd]
            · simp [upd, hj])
          clear h2 hu2 hg2 hS hb hKp hs
          go_wp2_with fail
          go_roundw
          case rel => exact ⟨k+1, by omega, by go_num, by rw [← E.out]; exact HS2.out, HB2.out, HK2.out⟩
          case measure => simp [intOf]; omega
        · obtain rfl : n = k := by omega
          clear hlt
          have E : Hid (l.take n = l) := Lib.hid (List.take_of_length_le (by rw [H.out]; exact Nat.le_refl _))
          have HS2 := Lib.hid hS
          have HB2 := Lib.hid hb
          have HK2 := Lib.hid hKp
          clear hS hb hKp
          go_wp2_with fail
          refine (Settle_any _ sb bu bw res _ wt _ _ _ _ HS2.out).mono ?_
          rintro e w3 ⟨rfl, hS, hb, hKp⟩
          rw [E.out] at hS
          have HS3 := Lib.hid hS
          have HB3 := Lib.hid (HB2.out.trans hb)
          have HK3 := Lib.hid (HK2.out.trans hKp HB2.out.size)
          clear hS hb hKp
          go_wp2_with fail
          go_ret
          exact ⟨rfl, HS3.out, HB3.out, HK3.out⟩
/-- A list with a number that no page may have. -/
theorem Keep_bad (w : World) (sb bu bw : Nat) (res : Int) (u wt : Int → Bool) (A : Option Addr) (c : Nat) (tk : List Int) (N : Nat) (h : Sp w sb bu bw res u wt A c tk N) (L : Option Addr) (n cl : Nat) (l : List Int) (hl : l.length = n) (hr : RdI w w.heap.size L l)
    (hm : n ≤ 1000000) (hbad : ¬ ∀ v ∈ l, res ≤ v ∧ v < 1048576) :
    Calls Try.prog 22 #[.pointer (some ⟨sb, 0, none⟩), .slice L n cl] w fun e w' => e = .returned (.int .i64 1) ∧ w = w' := by
  have c0 := h.c0
  have HR := Lib.hid hr
  have H := Lib.hid hl
  have HB := Lib.hid hbad
  clear h hr hl hbad
  go_enter Try.func22, Try.ntmps22
  go_wp2_with fail
  go_loopw [13] (fun i wr => ∃ k : Nat, k ≤ n ∧ i = .int .i64 k ∧ Hid (∀ v ∈ l.take k, res ≤ v ∧ v < 1048576) ∧ w = wr) (fun i _ => n - (intOf i).toNat)
  case atStart => exact ⟨0, Nat.zero_le _, rfl, Lib.hid (by simp), rfl⟩
  case round =>
    obtain ⟨k, hk, rfl, hall, rfl⟩ := hrel
    by_cases hlt : k < n
    · obtain ⟨s, hs⟩ := get_some l k (by rw [H.out]; exact hlt)
      obtain ⟨b, off, rfl, hblt, hc0⟩ := HR.out k s hs
      by_cases h1 : s < res
      · clear hs
        go_wp2_with fail
        go_ret
        exact ⟨rfl, rfl⟩
      · by_cases h2 : 1048576 ≤ s
        · clear hs
          go_wp2_with fail
          go_ret
          exact ⟨rfl, rfl⟩
        · have HA := Lib.hid (show ∀ v ∈ l.take (k+1), res ≤ v ∧ v < 1048576 by
            rw [take_snoc l k s hs]
            intro v hv
            rcases List.mem_append.1 hv with hv | hv
            · exact hall.out v hv
            · rw [List.mem_singleton] at hv; subst hv; omega)
          have hi0 : res ≤ s := by omega
          have hi1 : s < 1048576 := by omega
          clear hs h1 h2
          go_wp2_with fail
          go_roundw
          case rel => exact ⟨k+1, by omega, by go_num, HA, trivial⟩
          case measure => simp [intOf]; omega
    · exfalso
      have := hall.out
      rw [List.take_of_length_le (by have := H.out; omega)] at this
      exact HB.out this
end Go.Proofs.Ytobeppeadkoieaa
