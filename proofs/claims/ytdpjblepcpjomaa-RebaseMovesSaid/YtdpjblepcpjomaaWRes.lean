/-
  What rebase.Rescue answers, for every target and all lists (of at most 100000 scraps): the places that are to be rescued, or the refusal.
-/
import Derived.Test.YtdpjblepcpjomaaWMay
import Derived.Test.YtdpjblepcpjomaaRWalkf
import Derived.Test.YtdpjblepcpjomaaSWalkd
namespace Go.Proofs.Ytdpjblepcpjomaa.Rb
open Go.RowKit
open Classical in
noncomputable def rescueE (T : List S) (ls : List (List S)) : Int := if MayX T ∧ ∀ l ∈ ls, MayX l then 0 else 1
noncomputable def rescueL (T : List S) (ls : List (List S)) : List R := if rescueE T ls = 0 then rescueR T ls else []
theorem rescueE_yes {T : List S} {ls : List (List S)} (h : MayX T) (h' : ∀ l ∈ ls, MayX l) : rescueE T ls = 0 := by unfold rescueE; rw [if_pos ⟨h, h'⟩]
theorem rescueE_no {T : List S} {ls : List (List S)} (h : ¬ (MayX T ∧ ∀ l ∈ ls, MayX l)) : rescueE T ls = 1 := by unfold rescueE; rw [if_neg h]
theorem rescueL_yes {T : List S} {ls : List (List S)} (h : MayX T) (h' : ∀ l ∈ ls, MayX l) : rescueL T ls = rescueR T ls := by unfold rescueL; rw [if_pos (rescueE_yes h h')]
theorem rescueL_no {T : List S} {ls : List (List S)} (h : ¬ (MayX T ∧ ∀ l ∈ ls, MayX l)) : rescueL T ls = [] := by unfold rescueL; rw [rescueE_no h, if_neg (by decide)]
theorem flat_len {ls : List (List S)} {k : Nat} {l : List S} (h : ls[k]? = some l) : (ls.take k).flatten.length + l.length ≤ ls.flatten.length := by
  rw [Sc.flat_split h 0]; simp
theorem flat_okk {ls : List (List S)} (h : ∀ l ∈ ls, MayX l) : Sc.Ok ls.flatten := by
  intro s hs
  obtain ⟨l, hl, hs⟩ := List.mem_flatten.1 hs
  exact (h l hl).2.1 s hs
theorem need_step {src : Int} {a b : List S} (_ha : Sc.Ok a) (_hb : Sc.Ok b) : eitherR (nl (places src a)) (nl (places src b)) = nl (places src (a ++ b)) := by
  refine (eitherR_is _ _).uniq (nl_is _) fun x => ?_
  rw [(nl_is _).2, (nl_is _).2]
  show 0 ≤ x ∧ ((0 ≤ x ∧ In (places src a) x) ∨ (0 ≤ x ∧ In (places src b) x)) ↔ 0 ≤ x ∧ In (places src (a ++ b)) x
  rw [in_places, in_places, in_places, Sc.bts_append, List.mem_append]
  constructor
  · rintro ⟨h0, ⟨_, h⟩ | ⟨_, h⟩⟩
    · exact ⟨h0, .inl h⟩
    · exact ⟨h0, .inr h⟩
  · rintro ⟨h0, h | h⟩
    · exact ⟨h0, .inl ⟨h0, h⟩⟩
    · exact ⟨h0, .inr ⟨h0, h⟩⟩
theorem nl_nil : nl [] = [] := by simp [nl, clip]
theorem need_end (T : List S) (ls : List (List S)) : lessR (nl (places 0 ls.flatten)) (nl (places 0 T)) = rescueR T ls := by
  refine (lessR_is _ _).uniq (lessR_is _ _) fun x => ?_
  rw [(nl_is _).2, (nl_is _).2]
  constructor
  · rintro ⟨h0, ⟨_, h1⟩, h2⟩; exact ⟨h0, h1, fun h3 => h2 ⟨h0, h3⟩⟩
  · rintro ⟨h0, h1, h2⟩; exact ⟨h0, ⟨h0, h1⟩, fun h3 => h2 h3.2⟩
theorem RdL.up {w w' : World} {A : Option Addr} {l : List (List S)} (h : Sc.RdL w w.heap.size A l) (hb : Below w.heap.size w w') : Sc.RdL w' w'.heap.size A l := by
  intro k l hl
  obtain ⟨b, off, Ak, ck, e, hlt, hc, hr⟩ := h.below hb (Nat.le_refl _) k l hl
  exact ⟨b, off, Ak, ck, e, by have := hb.size; omega, hc, hr.more hb.size⟩
theorem may_snoc {ls : List (List S)} {k : Nat} {l : List S} (h : ls[k]? = some l) (h1 : ∀ m ∈ ls.take k, MayX m) (h2 : MayX l) : ∀ m ∈ ls.take (k+1), MayX m := by
  rw [Sc.take_snoc ls k l h]
  intro m hm
  rcases List.mem_append.1 hm with hm | hm
  · exact h1 m hm
  · simp at hm; subst hm; exact h2
set_option maxHeartbeats 800000 in
theorem Rescue_any (A : Option Addr) (len cap : Nat) (A2 : Option Addr) (len2 cap2 : Nat) (w : World) (T : List S) (ls : List (List S)) (hlen : T.length = len) (hr : Sc.Rd w w.heap.size A T) (hm : len ≤ 100000)
    (hlen2 : ls.length = len2) (hr2 : Sc.RdL w w.heap.size A2 ls) (hm2 : len2 ≤ 100000) (hf : ls.flatten.length ≤ 100000) :
    Calls Try.prog 12 #[.slice A len cap, .slice A2 len2 cap2] w fun e w' => (∃ A' n c, e = .returned (.tuple #[.slice A' n c, .int .i64 (rescueE T ls)]) ∧ Own w' w.heap.size A' n c (rescueL T ls)) ∧ Below w.heap.size w w' := by
  have H := Lib.hid hlen; have HR := Lib.hid hr; have H2 := Lib.hid hlen2; have HR2 := Lib.hid hr2; have HF := Lib.hid hf
  clear hlen hr hlen2 hr2 hf
  by_cases hT : MayX T
  · have e1 := mayX_of hT
    have HT := Lib.hid hT
    clear hT
    go_enter Try.func12, Try.ntmps12
    go_wp2_with fail
    refine (may_any A len cap _ T H.out HR.out (by omega)).mono ?_
    rintro e w1 ⟨rfl, hb⟩
    have HB1 := Lib.hid hb
    have R1 := Lib.hid (HR.out.up hb)
    have L1 := Lib.hid (RdL.up HR2.out hb)
    clear hb HR HR2
    go_wp2_with fail
    generalize hBB : w1.heap.size = BB at *
    have HB := Lib.hid hBB; clear hBB
    go_loopw [6, 14] (fun v i wr => ∃ k n A' c, k ≤ len2 ∧ n ≤ 100000 ∧ i = .int .i64 k ∧ v = .slice A' n c ∧ Hid (∀ m ∈ ls.take k, MayX m) ∧ Own wr BB A' n c (nl (places 0 (ls.take k).flatten)) ∧ Below BB w1 wr) (fun _ i _ => len2 - (intOf i).toNat)
    case atStart => exact ⟨0, 0, _, _, Nat.zero_le _, by omega, rfl, rfl, Lib.hid (fun m hm => by simp at hm), (show Own _ _ _ _ _ (nl (places 0 [])) from nl_nil ▸ Own.nil _ _), Below.refl _ _⟩
    case round =>
      obtain ⟨k, n, A', c, hk, hn, rfl, rfl, HA, hown, hb⟩ := hrel
      have hsz : BB ≤ wr.heap.size := by have := hb.size; have := HB.out; omega
      have HOw := Lib.hid hown; have HBel := Lib.hid hb
      by_cases hlt : k < len2
      · obtain ⟨l, hl⟩ := Sc.get_some ls k (by have := H2.out; omega)
        have hfl := flat_len hl
        obtain ⟨b, off, Ak, ck, rfl, hb', c0, hrl⟩ := L1.out.below hb (Nat.le_refl _) k l hl
        have hll : l.length ≤ 100000 := by have := HF.out; omega
        have HFL := Lib.hid hfl
        have RL := Lib.hid (hrl.more hsz)
        have HL := Lib.hid hl
        clear hl hfl hrl hown hb
        generalize hLN : l.length = LN at *
        have HLN := Lib.hid hLN; clear hLN
        by_cases hM : MayX l
        · have e2 := mayX_of hM
          have HM := Lib.hid hM
          clear hM
          go_wp2_with fail
          refine (may_any Ak LN ck _ l HLN.out RL.out (by omega)).mono ?_
          rintro e w2 ⟨rfl, hb2⟩
          have HB2 := Lib.hid hb2
          have RL2 := Lib.hid (RL.out.up hb2)
          have HO2 := Lib.hid (HOw.out.up hb2)
          clear hb2 RL
          go_wp2_with fail
          refine (places_any Ak LN ck 0 _ l HLN.out RL2.out HM.out.2.1 (by omega)).mono ?_
          rintro e w3 ⟨⟨A3, n3, c3, rfl, hown3⟩, hb3⟩
          have HO3 := Lib.hid hown3
          have HB3 := Lib.hid (below_up HB2.out hb3)
          have HO23 := Lib.hid (HO2.out.up hb3)
          have hn3 : n3 ≤ 100000 := by
            rw [← hown3.1]
            exact Nat.le_trans (nl_len _) (Nat.le_trans (places_len _ _) (by have := HLN.out; omega))
          clear hown3 hb3
          go_wp2_with fail
          have ok1 := Lib.hid (flat_okk HA.out)
          refine (Either_any A' n c A3 n3 c3 _ (nl (places 0 (ls.take k).flatten)) (nl (places 0 l)) HO23.out.1 HO23.out.rd (nl_nn (places_ir ok1.out)).ir HO23.out.none HO3.out.1 HO3.out.rd (nl_nn (places_ir HM.out.2.1)).ir HO3.out.none (by omega) (by omega)).mono ?_
          rintro e w4 ⟨⟨A4, n4, c4, rfl, hown4⟩, hb4⟩
          rw [need_step ok1.out HM.out.2.1, ← Sc.flat_take HL.out] at hown4
          have HA' := Lib.hid (may_snoc HL.out HA.out HM.out)
          have hn4 : n4 ≤ 100000 := by
            rw [← hown4.1]
            refine Nat.le_trans (nl_len _) (Nat.le_trans (places_len _ _) ?_)
            rw [Sc.flat_take HL.out, List.length_append]
            have := HFL.out; have := HF.out; have := HLN.out; omega
          have HO4 := Lib.hid (hown4.mono (base' := BB) (by have := HB3.out.size; omega))
          have HB4 := Lib.hid (HBel.out.trans ((below_up HB3.out hb4).mono hsz))
          clear hown4 hb4
          go_wp2_with fail
          go_roundw
          case rel => exact ⟨k+1, n4, A4, c4, by omega, hn4, by go_num, rfl, HA', HO4.out, HB4.out⟩
          case measure => simp [intOf]; omega
        · have e2 := mayX_not hM
          have hno : ¬ (MayX T ∧ ∀ l ∈ ls, MayX l) := fun h => hM (h.2 l (List.mem_of_getElem? HL.out))
          have HE := Lib.hid (rescueE_no hno); have HLL := Lib.hid (rescueL_no hno)
          clear hM hno
          go_wp2_with fail
          refine (may_any Ak LN ck _ l HLN.out RL.out (by omega)).mono ?_
          rintro e w2 ⟨rfl, hb2⟩
          have HB2 := Lib.hid (HBel.out.trans (hb2.mono hsz))
          clear hb2
          go_wp2_with fail
          go_ret2
          obtain rfl := HB.out
          rw [HE.out, HLL.out]
          exact ⟨⟨_, _, _, rfl, Own.nil _ _⟩, below_up HB1.out HB2.out⟩
      · obtain rfl : k = len2 := by omega
        have e2 : ls.take k = ls := by rw [List.take_of_length_le (Nat.le_of_eq H2.out)]
        rw [e2] at HA hown
        have HE := Lib.hid (rescueE_yes HT.out HA.out); have HLL := Lib.hid (rescueL_yes HT.out HA.out)
        have HO1 := Lib.hid hown
        have RT := Lib.hid ((R1.out.below hb (Nat.le_refl _)).more hsz)
        clear hlt e2 hown hb HOw
        go_wp2_with fail
        refine (places_any A len cap 0 _ T H.out RT.out HT.out.2.1 (by omega)).mono ?_
        rintro e w3 ⟨⟨A3, n3, c3, rfl, hown3⟩, hb3⟩
        have HO3 := Lib.hid hown3
        have HO13 := Lib.hid (HO1.out.up hb3)
        have HB3 := Lib.hid hb3
        have hn3 : n3 ≤ 100000 := by
          rw [← hown3.1]
          exact Nat.le_trans (nl_len _) (Nat.le_trans (places_len _ _) (by have := H.out; omega))
        clear hown3 hb3
        have ok1 := Lib.hid (flat_okk HA.out)
        go_wp2_with fail
        refine (Less_any A' n c A3 n3 c3 _ (nl (places 0 ls.flatten)) (nl (places 0 T)) HO13.out.1 HO13.out.rd (nl_nn (places_ir ok1.out)).ir HO3.out.1 HO3.out.rd (nl_nn (places_ir HT.out.2.1)).ir (by omega) (by omega)).mono ?_
        rintro e w4 ⟨⟨A4, n4, c4, rfl, hown4⟩, hb4⟩
        rw [need_end, ← HLL.out] at hown4
        have hsw := HB1.out.size
        have HO4 := Lib.hid (hown4.mono (base' := w.heap.size) (by have := HB3.out.size; have := HB.out; omega))
        have HB4 := Lib.hid (below_up HB1.out (by rw [HB.out]; exact HBel.out.trans ((below_up HB3.out hb4).mono hsz)))
        clear hown4 hb4
        go_wp2_with fail
        go_ret2
        rw [HE.out]
        exact ⟨⟨_, _, _, rfl, HO4.out⟩, HB4.out⟩
  · have e1 := mayX_not hT
    have hno : ¬ (MayX T ∧ ∀ l ∈ ls, MayX l) := fun h => hT h.1
    have HE := Lib.hid (rescueE_no hno); have HLL := Lib.hid (rescueL_no hno)
    clear hT hno
    go_enter Try.func12, Try.ntmps12
    go_wp2_with fail
    refine (may_any A len cap _ T H.out HR.out (by omega)).mono ?_
    rintro e w1 ⟨rfl, hb⟩
    go_wp2_with fail
    go_ret2
    rw [HE.out, HLL.out]
    exact ⟨⟨_, _, _, rfl, Own.nil _ _⟩, hb⟩
end Go.Proofs.Ytdpjblepcpjomaa.Rb
