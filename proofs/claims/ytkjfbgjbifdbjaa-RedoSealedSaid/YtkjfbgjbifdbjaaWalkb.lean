/-
  What the program's and the reference's checksums answer.
-/
import Derived.Test.YtkjfbgjbifdbjaaWalka
import Derived.Test.YtkjfbgjbifdbjaaCrc
namespace Go.Proofs.Ytkjfbgjbifdbjaa
open Go.RowKit
theorem ret_u32 {a b : Int} (h : a = b) : Ending.returned (.int .u32 a) = .returned (.int .u32 b) := by rw [h]
theorem step_any (s : Nat) (w : World) (h : s < 4294967296) : Calls Try.prog 31 #[.int .u32 (s : Int)] w fun e w' => e = .returned (.int .u32 (stepN s : Int)) ∧ w = w' := by
  have e1 := and1_32 s h
  have e2 := xor32 (s / 2) 3988292384 (by omega) (by decide)
  rw [show ((3988292384 : Nat) : Int) = 3988292384 from rfl, show ((s / 2 : Nat) : Int) = (s : Int) / 2 by omega] at e2
  by_cases ho : s % 2 = 1
  · have E : Hid (((s / 2 ^^^ 3988292384 : Nat) : Int) = (stepN s : Int)) := Lib.hid (by unfold stepN; rw [if_pos ho])
    rw [ho] at e1
    clear ho
    go_enter Try.func31, Try.ntmps31
    go_wp2_with fail
    go_ret
    exact ⟨ret_u32 E.out, rfl⟩
  · have E : Hid ((s : Int) / 2 = (stepN s : Int)) := Lib.hid (by unfold stepN; rw [if_neg ho]; omega)
    rw [show s % 2 = 0 by omega] at e1
    clear ho e2
    go_enter Try.func31, Try.ntmps31
    go_wp2_with fail
    go_ret
    exact ⟨ret_u32 E.out, rfl⟩
theorem move_any (s : Nat) (w : World) (h : s < 4294967296) : Calls Try.prog 29 #[.int .u32 (s : Int)] w fun e w' => e = .returned (.int .u32 (stepsN 8 s : Int)) ∧ w = w' := by
  go_enter Try.func29, Try.ntmps29
  go_wp2_with fail
  go_loopw [0, 3] (fun v i wr => ∃ k : Nat, k ≤ 8 ∧ i = .int .i64 k ∧ v = .int .u32 (stepsN k s : Int) ∧ w = wr) (fun _ i _ => 8 - (intOf i).toNat)
  case atStart => exact ⟨0, by omega, rfl, rfl, rfl⟩
  case round =>
    obtain ⟨k, hk, rfl, rfl, rfl⟩ := hrel
    by_cases hlt : k < 8
    · have HS := Lib.hid (stepsN_succ k s)
      have hx := stepsN_lt k h
      generalize stepsN k s = x at *
      have e2 := xor32 (x / 2) 3988292384 (by omega) (by decide)
      rw [show ((3988292384 : Nat) : Int) = 3988292384 from rfl, show ((x / 2 : Nat) : Int) = (x : Int) / 2 by omega] at e2
      by_cases ho : x % 2 = 1
      · have E : Hid (((x / 2 ^^^ 3988292384 : Nat) : Int) = (stepN x : Int)) := Lib.hid (by unfold stepN; rw [if_pos ho])
        have e1 : (x : Int) % 2 = 1 := by omega
        clear ho
        go_wp2_with fail
        go_roundw
        case rel => exact ⟨k+1, by omega, by go_num, by rw [HS.out, E.out], trivial⟩
        case measure => simp [intOf]; omega
      · have E : Hid ((x : Int) / 2 = (stepN x : Int)) := Lib.hid (by unfold stepN; rw [if_neg ho]; omega)
        have e1 : (x : Int) % 2 = 0 := by omega
        clear ho e2
        go_wp2_with fail
        go_roundw
        case rel => exact ⟨k+1, by omega, by go_num, by rw [HS.out, E.out], trivial⟩
        case measure => simp [intOf]; omega
    · obtain rfl : k = 8 := by omega
      go_wp2_with fail
      go_ret
      exact ⟨rfl, rfl⟩
theorem crcRef_any (A : Option Addr) (n c : Nat) (w : World) (l : List Int) (hl : l.length = n) (hr : RdB w w.heap.size A l) (hb : Bytes l) (hn : n ≤ 9223372036854775807) :
    Calls Try.prog 16 #[.slice A n c] w fun e w' => e = .returned (.int .u32 (crcOf l : Int)) ∧ w = w' := by
  have H := Lib.hid hl; have HR := Lib.hid hr; have HB := Lib.hid hb
  clear hl hr hb
  go_enter Try.func16, Try.ntmps16
  go_wp2_with fail
  go_loopw [3, 4] (fun v i wr => ∃ k : Nat, k ≤ n ∧ i = .int .i64 k ∧ v = .int .u32 (crcGo 4294967295 (l.take k) : Int) ∧ w = wr) (fun _ i _ => n - (intOf i).toNat)
  case atStart => exact ⟨0, by omega, rfl, by simp [crcGo], rfl⟩
  case round =>
    obtain ⟨k, hk, rfl, rfl, rfl⟩ := hrel
    have hx : crcGo 4294967295 (l.take k) < 4294967296 := crcGo_lt _ (by decide) (fun b hb => HB.out b (List.mem_of_mem_take hb))
    by_cases hlt : k < n
    · obtain ⟨s, hs⟩ := get_some l k (by rw [H.out]; exact hlt)
      obtain ⟨b, off, rfl, hblt, hc0⟩ := HR.out k s hs
      obtain ⟨hs0, hs1⟩ := HB.out s (List.mem_of_getElem? hs)
      have HS : Hid (crcGo 4294967295 (l.take (k+1)) = stepsN 8 (crcGo 4294967295 (l.take k) ^^^ s.toNat)) := Lib.hid (by rw [take_snoc l k s hs, crcGo_snoc])
      have hy := xorB_lt hx ⟨hs0, hs1⟩
      have e1 := xor32 (crcGo 4294967295 (l.take k)) s.toNat hx (by omega)
      rw [show ((s.toNat : Nat) : Int) = s by omega] at e1
      generalize crcGo 4294967295 (l.take k) ^^^ s.toNat = y at *
      clear hs
      go_wp2_with fail
      refine (move_any y _ hy).mono ?_
      rintro e w5 ⟨rfl, rfl⟩
      go_wp2_with fail
      go_roundw
      case rel => exact ⟨k+1, by omega, by go_num, by rw [HS.out], trivial⟩
      case measure => simp [intOf]; omega
    · obtain rfl : n = k := by omega
      have e1 := xor32 (crcGo 4294967295 (l.take n)) 4294967295 hx (by omega)
      rw [show ((4294967295 : Nat) : Int) = 4294967295 from rfl] at e1
      have E : Hid (crcGo 4294967295 (l.take n) ^^^ 4294967295 = crcOf l) := Lib.hid (by rw [List.take_of_length_le (by rw [H.out]; exact Nat.le_refl _)]; rfl)
      clear hlt
      go_wp2_with fail
      go_ret
      exact ⟨ret_u32 (by rw [E.out]), rfl⟩
theorem crc_any (g : Nat) (cc : Nat) (A : Option Addr) (n c : Nat) (w : World) (l : List Int) (hl : l.length = n) (hr : RdB w w.heap.size A l) (hb : Bytes l) (hn : n ≤ 9223372036854775807) (hg : w.cell? ⟨g, 0, none⟩ = some (.slice A n c)) :
    Calls Try.prog 20 #[.slice (some ⟨g, 0, none⟩) 1 cc] w fun e w' => e = .returned (.int .u32 (crcOf l : Int)) ∧ w = w' := by
  have H := Lib.hid hl; have HR := Lib.hid hr; have HB := Lib.hid hb
  clear hl hr hb
  go_enter Try.func20, Try.ntmps20
  go_wp2_with fail
  go_loopw [3, 10] (fun v i wr => ((i = .int .i64 0 ∧ v = .int .u32 4294967295) ∨ (i = .int .i64 1 ∧ v = .int .u32 (crcGo 4294967295 l : Int))) ∧ w = wr) (fun _ i _ => 1 - (intOf i).toNat)
  case atStart => exact ⟨.inl ⟨rfl, rfl⟩, rfl⟩
  case round =>
    obtain ⟨⟨rfl, rfl⟩ | ⟨rfl, rfl⟩, rfl⟩ := hrel
    · go_wp2_with fail
      go_loopw [3, 16] (fun v i wx => ∃ k : Nat, k ≤ n ∧ i = .int .i64 k ∧ v = .int .u32 (crcGo 4294967295 (l.take k) : Int) ∧ w = wx) (fun _ i _ => n - (intOf i).toNat)
      case atStart => exact ⟨0, by omega, rfl, by simp [crcGo], rfl⟩
      case round =>
        obtain ⟨k, hk, rfl, rfl, rfl⟩ := hrel
        have hx : crcGo 4294967295 (l.take k) < 4294967296 := crcGo_lt _ (by decide) (fun b hb => HB.out b (List.mem_of_mem_take hb))
        by_cases hlt : k < n
        · obtain ⟨s, hs⟩ := get_some l k (by rw [H.out]; exact hlt)
          obtain ⟨b, off, rfl, hblt, hc0⟩ := HR.out k s hs
          obtain ⟨hs0, hs1⟩ := HB.out s (List.mem_of_getElem? hs)
          have HS : Hid (crcGo 4294967295 (l.take (k+1)) = stepsN 8 (crcGo 4294967295 (l.take k) ^^^ s.toNat)) := Lib.hid (by rw [take_snoc l k s hs, crcGo_snoc])
          have hy := xorB_lt hx ⟨hs0, hs1⟩
          have e1 := xor32 (crcGo 4294967295 (l.take k)) s.toNat hx (by omega)
          rw [show ((s.toNat : Nat) : Int) = s by omega] at e1
          generalize crcGo 4294967295 (l.take k) ^^^ s.toNat = y at *
          clear hs
          go_wp2_with fail
          go_loopw [3, 24] (fun v i wx => ∃ q : Nat, q ≤ 8 ∧ i = .int .i64 q ∧ v = .int .u32 (stepsN q y : Int) ∧ w = wx) (fun _ i _ => 8 - (intOf i).toNat)
          case atStart => exact ⟨0, by omega, rfl, rfl, rfl⟩
          case round =>
            clear e1
            obtain ⟨q, hq, rfl, rfl, rfl⟩ := hrel
            by_cases hlt2 : q < 8
            · have HQ := Lib.hid (stepsN_succ q y)
              have hz := stepsN_lt q hy
              generalize stepsN q y = z at *
              go_wp2_with fail
              refine (step_any z _ hz).mono ?_
              rintro e w5 ⟨rfl, rfl⟩
              go_wp2_with fail
              go_roundw
              case rel => exact ⟨q+1, by omega, by go_num, by rw [HQ.out], trivial⟩
              case measure => simp [intOf]; omega
            · obtain rfl : q = 8 := by omega
              go_wp2_with fail
              go_roundw
              case rel => exact ⟨k+1, by omega, by go_num, by rw [HS.out], trivial⟩
              case measure => simp [intOf]; omega
        · obtain rfl : n = k := by omega
          have E : Hid (crcGo 4294967295 (l.take n) = crcGo 4294967295 l) := Lib.hid (by rw [List.take_of_length_le (by rw [H.out]; exact Nat.le_refl _)])
          clear hlt
          go_wp2_with fail
          go_roundw
          case rel => exact ⟨.inr ⟨rfl, by rw [E.out]⟩, trivial⟩
          case measure => simp [intOf]
    · have hx : crcGo 4294967295 l < 4294967296 := crcGo_lt _ (by decide) HB.out
      have E : Hid (bits BinOp.xor IntKind.u32 IntKind.u32.max (crcGo 4294967295 l : Int) = (crcOf l : Int)) := Lib.hid (by rw [show IntKind.u32.max = ((4294967295 : Nat) : Int) from rfl, xor32 _ _ (by decide) hx, Nat.xor_comm]; rfl)
      generalize crcGo 4294967295 l = x at *
      go_wp2_with fail
      go_ret
      exact ⟨ret_u32 E.out, rfl⟩
end Go.Proofs.Ytkjfbgjbifdbjaa
