/-
  What put leaves: bytes of numbers behind a row.
-/
import Derived.Test.YtkjfbgjbifdbjaaWalkc
import Derived.ArgAppend
namespace Go.Proofs.Ytkjfbgjbifdbjaa
open Go.RowKit
def Fits (d : Nat) (n : Int) : Prop := (d = 4 ∧ 0 ≤ n ∧ n < 4294967296) ∨ (d = 1 ∧ 0 ≤ n ∧ n < 256)
theorem BytesF_any (n : Int) (d : Nat) (w : World) (h : Fits d n) :
    Calls Try.prog 30 #[.int .i64 n, .int .i64 (d : Int)] w fun e w' => (∃ g, e = .returned (.tuple #[.slice (some ⟨g, 0, none⟩) d d, .int .i64 0]) ∧ OwnB w' w.heap.size (some ⟨g, 0, none⟩) d d (leB n d)) ∧ Below w.heap.size w w' := by
  rcases h with ⟨rfl, h0, h1⟩ | ⟨rfl, h0, h1⟩
  · exact Bytes4_any n w h0 h1
  · exact Bytes1_any n w h0 h1
theorem Fits.d {d : Nat} {n : Int} (h : Fits d n) : 1 ≤ d ∧ d ≤ 4 := by rcases h with ⟨rfl, _⟩ | ⟨rfl, _⟩ <;> omega
theorem ownBlock_slice (A : Option Addr) (n c : Nat) : (Value.slice A n c).ownBlock = A.map Addr.block := by cases A <;> rfl
/-- What is new lies behind: of the old only block o may have turned. -/
theorem grown_trans {w w1 w2 : World} {o o2 : Option Nat} (h : w.grownBy w1 o) (h' : w1.grownBy w2 o2) (hc : ∀ b, o2 = some b → o = some b ∨ w.heap.size ≤ b) : w.grownBy w2 o := by
  refine ⟨h'.os.trans h.os, h'.tape.trans h.tape, h'.output.trans h.output, Nat.le_trans h.size h'.size, fun k hk hne => ?_⟩
  refine (h'.block k (Nat.lt_of_lt_of_le hk h.size) (fun e => ?_)).trans (h.block k hk hne)
  rcases hc k e.symm with he | he
  · exact hne he.symm
  · omega
theorem grown_below {w w1 : World} (h : Below w.heap.size w w1) (o : Option Nat) : w.grownBy w1 o := ⟨h.os, h.tape, h.output, h.size, fun k hk _ => h.block k hk⟩
theorem RdI.grown {w w' : World} {B : Nat} {A : Option Addr} {l : List Int} {o : Option Nat} (h : RdI w B A l) (hg : w.grownBy w' o) (hB : B ≤ w.heap.size) (hA : ∀ b, A.map Addr.block = some b → o ≠ some b) : RdI w' B A l := by
  intro k v hv
  obtain ⟨b, off, rfl, hb, hc⟩ := h k v hv
  exact ⟨b, off, rfl, hb, (World.cell?_of_block (w := w) (a := ⟨b, off + k, none⟩) (hg.block b (by omega) (fun e => hA b rfl e.symm))).trans hc⟩
def Moved (w : World) (A A' : Option Addr) : Prop := ∀ b, A'.map Addr.block = some b → A.map Addr.block = some b ∨ w.heap.size ≤ b
set_option maxHeartbeats 1000000 in
theorem put_any (B : Nat) (A : Option Addr) (n c d : Nat) (NA : Option Addr) (m cn : Nat) (w : World) (l ns : List Int) (hO : OwnB w B A n c l) (hB : B ≤ w.heap.size) (hn : n ≤ 1048576) (hd1 : 1 ≤ d) (hd2 : d ≤ 4) (hm : m ≤ 1048576) (hns : ns.length = m) (hr : RdI w w.heap.size NA ns) (hA : ∀ b, NA.map Addr.block = some b → A.map Addr.block ≠ some b)
    (hf : ∀ x ∈ ns, Fits d x) :
    Calls Try.prog 19 #[.slice A n c, .int .i64 (d : Int), .slice NA m cn] w fun e w' => ∃ A' c', (e = .returned (.slice A' (n + d * m) c') ∧ OwnB w' B A' (n + d * m) c' (l ++ ns.flatMap (leB · d)) ∧ Moved w A A') ∧ w.grownBy w' (A.map Addr.block) := by
  obtain ⟨i0, hi, hz0, hz1, hz2⟩ := info_parts info5
  have HO := Lib.hid hO; have H := Lib.hid hns; have HR := Lib.hid hr; have HA := Lib.hid hA; have HF := Lib.hid hf
  clear hO hns hr hA hf
  go_enter Try.func19, Try.ntmps19
  go_wp2_with fail
  go_loopw [0, 13] (fun x i wr => ∃ (k c' q : Nat) (A' : Option Addr), k ≤ m ∧ q = n + d * k ∧ i = .int .i64 k ∧ x = .slice A' q c' ∧ OwnB wr B A' q c' (l ++ (ns.take k).flatMap (leB · d)) ∧ Moved w A A' ∧ w.grownBy wr (A.map Addr.block)) (fun _ i _ => m - (intOf i).toNat)
  case atStart => exact ⟨0, c, n, A, Nat.zero_le _, by simp, rfl, rfl, by simpa using HO.out, fun b h => .inl h, World.grownBy.refl _ _⟩
  case round =>
    obtain ⟨k, c', q, A', hk, hq, rfl, rfl, hO, hM, hg⟩ := hrel
    have hqm : q ≤ n + 4 * m := by
      have : d * k ≤ 4 * m := Nat.mul_le_mul hd2 hk
      omega
    have HQ := Lib.hid hq
    have HO1 := Lib.hid hO
    have HM := Lib.hid hM
    have HG := Lib.hid hg
    have hsz := hg.size
    clear hO hM hg hq
    by_cases hlt : k < m
    · obtain ⟨s, hs⟩ := get_some ns k (by rw [H.out]; exact hlt)
      obtain ⟨b, off, rfl, hblt, hc0⟩ := HR.out.grown HG.out (Nat.le_refl _) HA.out k s hs
      have HFs := Lib.hid (HF.out s (List.mem_of_getElem? hs))
      have HT : Hid ((ns.take (k+1)).flatMap (leB · d) = (ns.take k).flatMap (leB · d) ++ leB s d) := Lib.hid (by rw [take_snoc ns k s hs]; simp)
      clear hs
      go_wp2_with fail
      refine (BytesF_any s d _ HFs.out).mono ?_
      rintro e w5 ⟨⟨g, rfl, hO5⟩, hb⟩
      have HO5 := Lib.hid hO5
      have HO6 := Lib.hid (HO1.out.below hb (Nat.le_refl _))
      have HG5 := Lib.hid (grown_trans HG.out (grown_below hb none) (fun b h => by cases h))
      have hsz5 := hb.size
      clear hO5 hb
      go_wp2_with (at_builtin; refine wpList_append_block rfl _ _ 25 rfl B 5 i0 _ 1 1 Try.underlying25 hi hz0 hz1 hz2 rfl (by decide) _ _ _ rfl HO6.out.2 ⟨g, 0, none⟩ d d (bcells (leB s d)) rfl (by simp [bcells, leB]) (RdB.cells HO5.out.rd) (bcells_one _) (by unfold maxLen; omega) (by omega) (by omega) ?_)
      intro v' w6 hown' hgrow hblk
      obtain ⟨⟨A6, c6, hv, hO7⟩, _, _, _, _⟩ := appB_step (w := w5) HO6.out (Below.refl _ _) (by omega) (Below.refl _ _) (m := d) (K := leB s d) (leB_length s d) hown' hgrow
      have HO7 := Lib.hid hO7
      have HG6 : Hid (w.grownBy w6 (A.map Addr.block)) := Lib.hid (grown_trans HG5.out hgrow (fun b h => by rw [ownBlock_slice] at h; exact HM.out b h))
      have HM6 : Hid (Moved w A A6) := Lib.hid (fun b h => by
        rw [hv, ownBlock_slice, ownBlock_slice] at hblk
        rcases hblk with hb | hb
        · exact HM.out b (by rw [← hb]; exact h)
        · rw [hb] at h
          injection h with h
          right; omega)
      rw [hv]
      clear hown' hgrow hblk hv hO7
      go_wp2_with fail
      go_roundw
      case rel => exact ⟨k+1, c6, q + d, A6, by omega, by rw [HQ.out, Nat.mul_succ, Nat.add_assoc], by go_num, rfl, by rw [HT.out, ← List.append_assoc]; exact HO7.out, HM6.out, HG6.out⟩
      case measure => simp [intOf]; omega
    · obtain rfl : m = k := by omega
      have E : Hid (ns.take m = ns) := Lib.hid (by rw [List.take_of_length_le (by rw [H.out]; exact Nat.le_refl _)])
      clear hlt
      go_wp2_with fail
      go_ret
      obtain rfl := HQ.out
      exact ⟨A', c', ⟨rfl, by rw [← E.out]; simpa [E.out] using HO1.out, HM.out⟩, HG.out⟩
/-- Behind a row that is full and was not made by append. -/
theorem put_full (A : Option Addr) (n d : Nat) (NA : Option Addr) (cn : Nat) (w : World) (l : List Int) (x : Int) (hl : l.length = n) (hA : A ≠ none) (hR : RdB w w.heap.size A l) (hn : n ≤ 1048576) (hr : RdI w w.heap.size NA [x]) (hf : Fits d x) :
    Calls Try.prog 19 #[.slice A n n, .int .i64 (d : Int), .slice NA 1 cn] w fun e w' => (∃ g c', e = .returned (.slice (some ⟨g, 0, none⟩) (n + d) c') ∧ OwnB w' w.heap.size (some ⟨g, 0, none⟩) (n + d) c' (l ++ leB x d)) ∧ Below w.heap.size w w' := by
  obtain ⟨i0, hi, hz0, hz1, hz2⟩ := info_parts info5
  obtain ⟨b, off, rfl, hblt, hc0⟩ := hr 0 x rfl
  rw [Nat.add_zero] at hc0
  have HR := Lib.hid hR; have H := Lib.hid hl; have HF := Lib.hid hf; have HA := Lib.hid hA
  have hd := hf.d
  clear hR hl hf hr hA
  go_enter Try.func19, Try.ntmps19
  go_wp2_with fail
  go_loopw [0, 13] (fun v i wr => (i = .int .i64 0 ∧ v = .slice A n n ∧ w = wr) ∨ (i = .int .i64 1 ∧ ∃ g c', v = .slice (some ⟨g, 0, none⟩) (n + d) c' ∧ OwnB wr w.heap.size (some ⟨g, 0, none⟩) (n + d) c' (l ++ leB x d) ∧ Below w.heap.size w wr)) (fun _ i _ => 1 - (intOf i).toNat)
  case atStart => exact .inl ⟨rfl, rfl, rfl⟩
  case round =>
    rcases hrel with ⟨rfl, rfl, rfl⟩ | ⟨rfl, g, c', rfl, hO, hb⟩
    · go_wp2_with fail
      refine (BytesF_any x d _ HF.out).mono ?_
      rintro e w5 ⟨⟨g, rfl, hO5⟩, hb⟩
      have HO5 := Lib.hid hO5
      have HR5 := Lib.hid (HR.out.up hb)
      have HB5 := Lib.hid hb
      clear hO5 hb
      go_wp2_with (at_builtin; refine wpList_append_grows w5 rfl _ _ 25 rfl 5 i0 _ 1 1 Try.underlying25 hi hz0 hz1 hz2 rfl (by decide) A n n (bcells l) rfl (fun h => absurd h HA.out) (by simp [bcells, H.out]) (HR5.out.cells') ⟨g, 0, none⟩ d d (bcells (leB x d)) rfl (by simp [bcells, leB]) (RdB.cells HO5.out.rd) (bcells_one _) (by omega) (by unfold maxLen; omega) (by omega) ?_)
      intro v' w6 hown' hgrow
      obtain ⟨A6, c6, hv⟩ := ext_of_ownB hown'
      rw [hv] at hown'
      have hO6 : OwnB w6 w5.heap.size A6 (n + d) c6 (l ++ leB x d) := ⟨by simp [H.out, leB_length], by simpa [bcells] using hown'⟩
      obtain ⟨g6, rfl, _, _, _, _⟩ := hO6.form (by omega)
      have HO6 := Lib.hid (hO6.mono HB5.out.size)
      have HB6 : Hid (Below w.heap.size w w6) := Lib.hid (HB5.out.grown hgrow HB5.out.size (fun k h => by cases h))
      rw [hv]
      clear hown' hgrow hv hO6
      go_wp2_with fail
      go_roundw
      case rel => exact .inr ⟨rfl, g6, c6, rfl, HO6.out, HB6.out⟩
      case measure => simp [intOf]
    · go_wp2_with fail
      go_ret
      exact ⟨⟨g, c', rfl, hO⟩, hb⟩
theorem put_own (B : Nat) (g n c d : Nat) (NA : Option Addr) (m cn : Nat) (w : World) (l ns : List Int) (hO : OwnB w B (some ⟨g, 0, none⟩) n c l) (hB : B ≤ w.heap.size) (hn : n ≤ 1048576) (hn0 : 0 < n) (hd1 : 1 ≤ d) (hd2 : d ≤ 4) (hm : m ≤ 1048576) (hns : ns.length = m) (hr : RdI w w.heap.size NA ns) (hA : ∀ b, NA.map Addr.block = some b → g ≠ b)
    (hf : ∀ x ∈ ns, Fits d x) :
    Calls Try.prog 19 #[.slice (some ⟨g, 0, none⟩) n c, .int .i64 (d : Int), .slice NA m cn] w fun e w' => (∃ g' c', e = .returned (.slice (some ⟨g', 0, none⟩) (n + d * m) c') ∧ OwnB w' B (some ⟨g', 0, none⟩) (n + d * m) c' (l ++ ns.flatMap (leB · d)) ∧ (g' = g ∨ w.heap.size ≤ g')) ∧ w.grownBy w' (some g) := by
  refine (put_any B _ n c d NA m cn w l ns hO hB hn hd1 hd2 hm hns hr (fun b hb e => hA b hb (by simpa using e)) hf).mono ?_
  rintro e w' ⟨A', c', ⟨rfl, hO', hM⟩, hg⟩
  obtain ⟨g', rfl, _, _, _, _⟩ := hO'.form (by omega)
  refine ⟨⟨g', c', rfl, hO', ?_⟩, hg⟩
  rcases hM g' rfl with h | h
  · left; injection h with h; exact h.symm
  · exact .inr h
end Go.Proofs.Ytkjfbgjbifdbjaa
