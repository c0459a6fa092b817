/-
  What rebase.may, places and the reference's May answer, for every list that reads as scraps.
-/
import Derived.Test.YtdpjblepcpjomaaPMove
import Derived.Test.YtdpjblepcpjomaaSRefa
import Derived.Test.YtdpjblepcpjomaaRWalkc
namespace Go.Proofs.Ytdpjblepcpjomaa.Rb
open Go.RowKit
/-- A list that may be, of the original and the tail alone. -/
def MayX (l : List S) : Prop := (∀ s ∈ l, s.src ≠ 2) ∧ Sc.MayP l
open Classical in
noncomputable def mayX (l : List S) : Bool := decide (MayX l)
theorem mayX_of {l : List S} (h : MayX l) : mayX l = true := by unfold mayX; simpa using h
theorem mayX_not {l : List S} (h : ¬ MayX l) : mayX l = false := by unfold mayX; simpa using h
theorem mayX_stop {l : List S} {k : Nat} {s : S} (hs : l[k]? = some s) (h : s.src = 2) : mayX l = false := mayX_not fun hm => hm.1 s (List.mem_of_getElem? hs) h
theorem mayX_step {l : List S} {k : Nat} {s : S} (hs : l[k]? = some s) (h : s.src ≠ 2) (ht : ∀ t ∈ l.take k, t.src ≠ 2) : ∀ t ∈ l.take (k+1), t.src ≠ 2 := by
  rw [Sc.take_snoc l k s hs]
  intro t ht'
  rcases List.mem_append.1 ht' with h1 | h1
  · exact ht t h1
  · simp at h1; subst h1; exact h
theorem mayX_end {l : List S} (h : ∀ t ∈ l, t.src ≠ 2) : mayX l = Sc.mayB l := by
  by_cases hm : Sc.MayP l
  · rw [mayX_of ⟨h, hm⟩, Sc.mayB_of hm]
  · rw [mayX_not fun h1 => hm h1.2, Sc.mayB_not hm]
theorem may_any (A : Option Addr) (len cap : Nat) (w : World) (l : List S) (hlen : l.length = len) (hr : Sc.Rd w w.heap.size A l) (hm : len ≤ 9223372036854775807) :
    Calls Try.prog 27 #[.slice A len cap] w fun e w' => e = .returned (.bool (mayX l)) ∧ Below w.heap.size w w' := by
  have H := Lib.hid hlen; have HR := Lib.hid hr
  clear hlen hr
  go_enter Try.func27, Try.ntmps27
  go_wp2_with fail
  go_loopw [7] (fun i wr => ∃ k : Nat, k ≤ len ∧ i = .int .i64 k ∧ Hid (∀ t ∈ l.take k, t.src ≠ 2) ∧ Below w.heap.size w wr) (fun i _ => len - (intOf i).toNat)
  case atStart => exact ⟨0, Nat.zero_le _, rfl, Lib.hid (fun t ht => by simp at ht), Below.refl _ _⟩
  case round =>
    obtain ⟨k, hk, rfl, HN, hb⟩ := hrel
    by_cases hlt : k < len
    · obtain ⟨s, hs⟩ := Sc.get_some l k (by have := H.out; omega)
      obtain ⟨b, off, rfl, hb', h0, h1, h2⟩ := HR.out.below hb (Nat.le_refl _) k s hs
      by_cases c : s.src = 2
      · have HT := Lib.hid (mayX_stop hs c)
        rw [c] at h0
        clear hs c
        go_wp2_with fail
        go_ret
        exact ⟨Sc.ret_bool HT.out.symm, hb.alloc hb.size _⟩
      · have HT := Lib.hid (mayX_step hs c HN.out)
        have c' : (s.src == 2) = false := by simpa using c
        clear hs c
        go_wp2_with fail
        go_roundw
        case rel => exact ⟨k+1, by omega, by go_num, HT, hb.alloc hb.size _⟩
        case measure => simp [intOf]; omega
    · obtain rfl : k = len := by omega
      have e2 : l.take k = l := by rw [List.take_of_length_le (Nat.le_of_eq H.out)]
      have HT := Lib.hid (mayX_end (e2 ▸ HN.out))
      have HB := Lib.hid hb
      have HR2 := Lib.hid ((HR.out.below hb (Nat.le_refl _)).more hb.size)
      clear hlt e2 hb
      go_wp2_with fail
      refine (Sc.may_any A k cap _ l H.out HR2.out hm).mono ?_
      rintro e w1 ⟨rfl, hb⟩
      go_wp2_with fail
      go_ret
      exact ⟨Sc.ret_bool HT.out.symm, HB.out.trans (hb.mono HB.out.size)⟩
theorem refMay_any (A : Option Addr) (len cap : Nat) (w : World) (l : List S) (hlen : l.length = len) (hr : Sc.Rd w w.heap.size A l) (hm : len ≤ 9223372036854775807) :
    Calls Try.prog 10 #[.slice A len cap] w fun e w' => e = .returned (.bool (mayX l)) ∧ Below w.heap.size w w' := by
  have H := Lib.hid hlen; have HR := Lib.hid hr
  clear hlen hr
  go_enter Try.func10, Try.ntmps10
  go_wp2_with fail
  go_loopw [3] (fun i wr => ∃ k : Nat, k ≤ len ∧ i = .int .i64 k ∧ Hid (∀ t ∈ l.take k, t.src ≠ 2) ∧ Below w.heap.size w wr) (fun i _ => len - (intOf i).toNat)
  case atStart => exact ⟨0, Nat.zero_le _, rfl, Lib.hid (fun t ht => by simp at ht), Below.refl _ _⟩
  case round =>
    obtain ⟨k, hk, rfl, HN, hb⟩ := hrel
    by_cases hlt : k < len
    · obtain ⟨s, hs⟩ := Sc.get_some l k (by have := H.out; omega)
      obtain ⟨b, off, rfl, hb', h0, h1, h2⟩ := HR.out.below hb (Nat.le_refl _) k s hs
      by_cases c : s.src = 2
      · have HT := Lib.hid (mayX_stop hs c)
        rw [c] at h0
        clear hs c
        go_wp2_with fail
        go_ret
        exact ⟨Sc.ret_bool HT.out.symm, hb⟩
      · have HT := Lib.hid (mayX_step hs c HN.out)
        have c' : (s.src == 2) = false := by simpa using c
        clear hs c
        go_wp2_with fail
        go_roundw
        case rel => exact ⟨k+1, by omega, by go_num, HT, hb⟩
        case measure => simp [intOf]; omega
    · obtain rfl : k = len := by omega
      have e2 : l.take k = l := by rw [List.take_of_length_le (Nat.le_of_eq H.out)]
      have HT := Lib.hid (mayX_end (e2 ▸ HN.out))
      have HB := Lib.hid hb
      have HR2 := Lib.hid ((HR.out.below hb (Nat.le_refl _)).more hb.size)
      clear hlt e2 hb
      go_wp2_with fail
      refine (Sc.refMay_any A k cap _ l H.out HR2.out hm).mono ?_
      rintro e w1 ⟨rfl, hb⟩
      go_wp2_with fail
      go_ret
      exact ⟨Sc.ret_bool HT.out.symm, HB.out.trans (hb.mono HB.out.size)⟩
theorem places_any (A : Option Addr) (len cap : Nat) (src : Int) (w : World) (l : List S) (hlen : l.length = len) (hr : Sc.Rd w w.heap.size A l) (hO : Sc.Ok l) (hm : len ≤ 1099511627776) :
    Calls Try.prog 29 #[.slice A len cap, .int .i64 src] w fun e w' => (∃ A' n c, e = .returned (.slice A' n c) ∧ Own w' w.heap.size A' n c (nl (places src l))) ∧ Below w.heap.size w w' := by
  obtain ⟨i0, hi, hz0, hz1, hz2⟩ := info_parts info29
  have H := Lib.hid hlen; have HR := Lib.hid hr; have HO := Lib.hid hO
  clear hlen hr hO
  go_enter Try.func29, Try.ntmps29
  go_wp2_with fail
  generalize hBB : w.heap.size = BB at *
  have HB := Lib.hid hBB; clear hBB
  go_loopw [5, 10] (fun v i wr => ∃ k n A' c, k ≤ len ∧ n ≤ k ∧ i = .int .i64 k ∧ v = .slice A' n c ∧ Own wr BB A' n c (places src (l.take k)) ∧ Below BB w wr) (fun _ i _ => len - (intOf i).toNat)
  case atStart => exact ⟨0, 0, _, _, Nat.zero_le _, Nat.le_refl _, rfl, rfl, Own.nil _ _, Below.refl _ _⟩
  case round =>
    obtain ⟨k, n, A', c, hk, hn, rfl, rfl, hown, hb⟩ := hrel
    have hsz : BB ≤ wr.heap.size := by have := hb.size; have := HB.out; omega
    by_cases hlt : k < len
    · obtain ⟨s, hs⟩ := Sc.get_some l k (by have := H.out; omega)
      obtain ⟨b, off, rfl, hb', h0, h1, h2⟩ := HR.out.below hb (Nat.le_refl _) k s hs
      have hk1 := HO.out.at_ hs
      unfold Sc.okS at hk1
      have hp := places_take (src := src) hs
      have HOw := Lib.hid hown; have HBel := Lib.hid hb
      by_cases cc : s.src = src
      · rw [if_pos cc] at hp
        have HT := Lib.hid hp
        rw [cc] at h0
        clear hs cc hp hown hb
        go_wp2_with (at_builtin; refine wpList_append_own _ rfl _ _ 27 rfl BB 52 i0 _ 2 16 Try.underlying27 hi hz0 hz1 hz2 rfl (by decide) _ _ _ rfl ((HOw.out.alloc _).alloc _).2 ⟨wr.heap.size + 1, 0, none⟩ 1 1 (cells [(s.at_, s.at_ + s.len)]) rfl rfl (new_one _ (s.at_, s.at_ + s.len) _ (by simp)) (cells_one_cell _) (by unfold maxLen; omega) (by omega) (by simp; omega) ?_)
        intro v' w1 hown' hgrow _
        obtain ⟨⟨A'', c'', hv, hown2⟩, hb3, hst, hz3, hcl⟩ := appL_step HOw.out HBel.out hsz (((Below.refl _ _).alloc (Nat.le_refl _) _).alloc (by simp) _) (m := 1) (K := [(s.at_, s.at_ + s.len)]) rfl hown' hgrow
        rw [hv]
        clear hgrow hown' hv
        go_wp2_with fail
        go_roundw
        case rel => exact ⟨k+1, n+1, A'', c'', by omega, by omega, by go_num, rfl, by rw [HT.out]; exact hown2, hb3⟩
        case measure => simp [intOf]; omega
      · rw [if_neg cc, List.append_nil] at hp
        have HT := Lib.hid hp
        have c' : (s.src == src) = false := by simpa using cc
        clear hs cc hp hown hb
        go_wp2_with fail
        go_roundw
        case rel => exact ⟨k+1, n, A', c, by omega, by omega, by go_num, rfl, by rw [HT.out]; exact HOw.out.alloc _, HBel.out.alloc hsz _⟩
        case measure => simp [intOf]; omega
    · obtain rfl : k = len := by omega
      have e2 : l.take k = l := by rw [List.take_of_length_le (Nat.le_of_eq H.out)]
      rw [e2] at hown
      have HOw := Lib.hid hown; have HBel := Lib.hid hb
      clear hown hb hlt e2
      go_wp2_with fail
      refine (Normal_any A' n c _ (places src l) HOw.out.1 HOw.out.rd (places_ir HO.out) (by omega)).mono ?_
      rintro e w1 ⟨⟨A2, n2, c2, rfl, hown2⟩, hb2⟩
      have HO2 := Lib.hid (hown2.mono (base' := BB) hsz)
      have HB2 := Lib.hid (HBel.out.trans (hb2.mono hsz))
      clear hown2 hb2
      go_wp2_with fail
      go_ret
      obtain rfl := HB.out
      exact ⟨⟨_, _, _, rfl, HO2.out⟩, HB2.out⟩
end Go.Proofs.Ytdpjblepcpjomaa.Rb
