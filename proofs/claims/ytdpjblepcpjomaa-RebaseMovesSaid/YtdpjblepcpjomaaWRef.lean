/-
  What the reference's place, joined and Rescue answer.
-/
import Derived.Test.YtdpjblepcpjomaaWRes
import Derived.Test.YtdpjblepcpjomaaRWalki
namespace Go.Proofs.Ytdpjblepcpjomaa.Rb
open Go.RowKit
def posI (TB : List B) (x : B) : Int := match pos TB x with | some p => (p : Int) | none => -1
theorem posI_at {T : List S} (hT : Sc.Ok T) {k : Nat} {s : S} (hs : T[k]? = some s) {a y : Int} (ha : s.src = a) (hn : (a, y) ∉ Sc.bts (T.take k)) (h0 : s.at_ ≤ y) (h1 : y < s.at_ + s.len) : posI (Sc.bts T) (a, y) = Sc.tot (T.take k) + y - s.at_ := by
  subst ha
  have ht := Sc.tot_nonneg _ (hT.take k)
  unfold posI
  rw [pos_at hT hs hn h0 h1]
  simp only
  omega
theorem posI_none {TB : List B} {x : B} (h : x ∉ TB) : posI TB x = -1 := by unfold posI; rw [pos_none.2 h]
theorem posI_ge {TB : List B} {x : B} : -1 ≤ posI TB x ∧ posI TB x < TB.length := by
  unfold posI
  split
  · rename_i p hp
    have := pos_lt hp
    omega
  · omega
theorem posI_mem {TB : List B} {x : B} : posI TB x < 0 ↔ x ∉ TB := by
  rw [← pos_none]
  unfold posI
  cases pos TB x with
  | none => simp
  | some p => simp
theorem mem_step {T : List S} {k : Nat} {s : S} (hs : T[k]? = some s) {x : B} (h : x ∉ Sc.bts (T.take k)) (h' : ¬ (s.src = x.1 ∧ s.at_ ≤ x.2 ∧ x.2 < s.at_ + s.len)) : x ∉ Sc.bts (T.take (k+1)) := by
  rw [bts_take T k s hs, List.mem_append]
  rintro (h1 | h1)
  · exact h h1
  · exact h' ((mem_sb s x.1 x.2).1 h1)
set_option maxHeartbeats 1600000 in
theorem place_any (A : Option Addr) (len cap : Nat) (a y : Int) (w : World) (T : List S) (hlen : T.length = len) (hr : Sc.Rd w w.heap.size A T) (hT : Sc.MayP T) (_hy : -9223372036854775808 ≤ y) (hy1 : y ≤ 1099511627776) :
    Calls Try.prog 31 #[.slice A len cap, .int .i64 a, .int .i64 y] w fun e w' => e = .returned (.int .i64 (posI (Sc.bts T) (a, y))) ∧ Below w.heap.size w w' := by
  have H := Lib.hid hlen; have HR := Lib.hid hr; have HT := Lib.hid hT
  have hm := Sc.len_le_tot T hT.1
  have hm2 := hT.2
  rw [hlen] at hm
  have hm : len ≤ 1099511627776 := by omega
  clear hlen hr hT hm2
  go_enter Try.func31, Try.ntmps31
  go_wp2_with fail
  go_loopw [7, 8] (fun v i wr => ∃ k : Nat, k ≤ len ∧ i = .int .i64 k ∧ v = .int .i64 (Sc.tot (T.take k)) ∧ Hid ((a, y) ∉ Sc.bts (T.take k)) ∧ Below w.heap.size w wr) (fun _ i _ => len - (intOf i).toNat)
  case atStart => exact ⟨0, Nat.zero_le _, rfl, rfl, Lib.hid (by simp [Sc.bts]), Below.refl _ _⟩
  case round =>
    obtain ⟨k, hk, rfl, rfl, HN, hb⟩ := hrel
    by_cases hlt : k < len
    · obtain ⟨s, hs⟩ := Sc.get_some T k (by have := H.out; omega)
      obtain ⟨b, off, rfl, hb', h0, h1, h2⟩ := HR.out.below hb (Nat.le_refl _) k s hs
      have hok := HT.out.1.at_ hs
      unfold Sc.okS at hok
      have t0 := Sc.tot_nonneg _ (HT.out.1.take k)
      have t1 : Sc.tot (T.take k) + s.len ≤ 1099511627776 := by
        have h3 := Sc.tot_take_le T HT.out.1 (k+1)
        rw [Sc.tot_take_succ T k s hs] at h3
        have := HT.out.2
        omega
      have HTQ := Lib.hid (Sc.tot_take_succ T k s hs)
      have HS := Lib.hid hs
      obtain ⟨Q, hQ⟩ : ∃ q, Sc.tot (T.take k) = q := ⟨_, rfl⟩
      have HQ := Lib.hid hQ
      rw [hQ] at t0 t1 ⊢
      clear hs hQ
      by_cases c0 : s.src = a
      · rw [c0] at h0
        by_cases c1 : s.at_ ≤ y
        · by_cases c2 : y < s.at_ + s.len
          · have HP := Lib.hid (posI_at HT.out.1 HS.out c0 HN.out c1 c2)
            clear c0
            go_wp2_with fail
            go_ret
            exact ⟨Sc.ret_int (by rw [HP.out, HQ.out]), hb.alloc hb.size _⟩
          · have HM := Lib.hid (mem_step HS.out HN.out (fun h => c2 h.2.2))
            clear c0
            go_wp2_with fail
            go_roundw
            case rel => exact ⟨k+1, by omega, by go_num, by rw [HTQ.out, HQ.out], HM, hb.alloc hb.size _⟩
            case measure => simp [intOf]; omega
        · have HM := Lib.hid (mem_step HS.out HN.out (fun h => c1 h.2.1))
          clear c0
          go_wp2_with fail
          go_roundw
          case rel => exact ⟨k+1, by omega, by go_num, by rw [HTQ.out, HQ.out], HM, hb.alloc hb.size _⟩
          case measure => simp [intOf]; omega
      · have HM := Lib.hid (mem_step HS.out HN.out (fun h => c0 h.1))
        have c' : (s.src == a) = false := by simpa using c0
        clear c0
        go_wp2_with fail
        go_roundw
        case rel => exact ⟨k+1, by omega, by go_num, by rw [HTQ.out, HQ.out], HM, hb.alloc hb.size _⟩
        case measure => simp [intOf]; omega
    · obtain rfl : k = len := by omega
      have e2 : T.take k = T := by rw [List.take_of_length_le (Nat.le_of_eq H.out)]
      rw [e2] at HN
      have HP := Lib.hid (posI_none HN.out)
      clear hlt e2
      go_wp2_with fail
      go_ret
      exact ⟨Sc.ret_int HP.out.symm, hb⟩
/-! ### joined -/
def jstep (out : List R) (r : R) : List R :=
  match out.getLast? with
  | none => [r]
  | some t => if t.2 = r.1 then out.dropLast ++ [(t.1, r.2)] else out ++ [r]
theorem jstep_nil (s : R) : jstep [] s = [s] := rfl
theorem jstep_yes (L : List R) (t s : R) (h : t.2 = s.1) : jstep (L ++ [t]) s = L ++ [(t.1, s.2)] := by simp [jstep, h]
theorem jstep_no (L : List R) (t s : R) (h : ¬ t.2 = s.1) : jstep (L ++ [t]) s = L ++ [t] ++ [s] := by simp [jstep, h]
def joinR (l : List R) : List R := l.foldl jstep []
/-- Ranges that are none of them empty. -/
def Ne (l : List R) : Prop := ∀ r ∈ l, r.1 < r.2
theorem jstep_in {out : List R} {s : R} (h : Ne out) (hs : s.1 < s.2) : Ne (jstep out s) ∧ ∀ x, In (jstep out s) x ↔ In out x ∨ (s.1 ≤ x ∧ x < s.2) := by
  rcases snoc_cases out with rfl | ⟨L, t, rfl⟩
  · rw [jstep_nil]
    refine ⟨fun r hr => by simp at hr; subst hr; exact hs, fun x => ?_⟩
    rw [in_one]
    exact ⟨.inr, fun hx => hx.resolve_left (in_nil x)⟩
  · have ht := h t (by simp)
    by_cases hc : t.2 = s.1
    · rw [jstep_yes L t s hc]
      refine ⟨fun r hr => ?_, fun x => ?_⟩
      · rcases List.mem_append.1 hr with hr | hr
        · exact h r (by simp [hr])
        · simp at hr; subst hr; simp only; omega
      · rw [in_append, in_append, in_one, in_one]
        simp only
        constructor
        · rintro (h1 | h1)
          · exact .inl (.inl h1)
          · by_cases hx : x < t.2
            · exact .inl (.inr ⟨h1.1, hx⟩)
            · exact .inr ⟨by omega, h1.2⟩
        · rintro ((h1 | h1) | h1)
          · exact .inl h1
          · exact .inr ⟨h1.1, by omega⟩
          · exact .inr ⟨by omega, h1.2⟩
    · rw [jstep_no L t s hc]
      refine ⟨fun r hr => ?_, fun x => ?_⟩
      · rcases List.mem_append.1 hr with hr | hr
        · exact h r hr
        · simp at hr; subst hr; exact hs
      · rw [in_append, in_one]
theorem joinR_in (l : List R) : ∀ out, Ne out → Ne l → Ne (l.foldl jstep out) ∧ ∀ x, In (l.foldl jstep out) x ↔ In out x ∨ In l x := by
  induction l with
  | nil => intro out h _; exact ⟨h, fun x => ⟨.inl, fun hx => hx.resolve_right (in_nil x)⟩⟩
  | cons r l ih =>
    intro out h hl
    obtain ⟨h1, h2⟩ := jstep_in h (hl r (List.mem_cons_self ..))
    obtain ⟨h3, h4⟩ := ih _ h1 (fun q hq => hl q (List.mem_cons_of_mem _ hq))
    refine ⟨h3, fun x => ?_⟩
    rw [List.foldl_cons, h4, h2, in_cons, or_assoc]
theorem jstep_len (out : List R) (s : R) : (jstep out s).length ≤ out.length + 1 := by
  rcases snoc_cases out with rfl | ⟨L, t, rfl⟩
  · simp [jstep_nil]
  · by_cases hc : t.2 = s.1
    · rw [jstep_yes L t s hc]; simp
    · rw [jstep_no L t s hc]; simp
theorem joinR_len (l : List R) : ∀ out, (l.foldl jstep out).length ≤ out.length + l.length := by
  induction l with
  | nil => intro out; simp
  | cons r l ih => intro out; have := ih (jstep out r); have := jstep_len out r; simp only [List.foldl_cons, List.length_cons]; omega
theorem jstep_ir {out : List R} {s : R} (h : IR out) (hs : IR [s]) : IR (jstep out s) := by
  have hs' := hs s (by simp)
  rcases snoc_cases out with rfl | ⟨L, t, rfl⟩
  · exact hs
  · have ht := h t (by simp)
    by_cases hc : t.2 = s.1
    · rw [jstep_yes L t s hc]
      intro r hr
      rcases List.mem_append.1 hr with hr | hr
      · exact h r (by simp [hr])
      · simp at hr; subst hr; exact ⟨ht.1, hs'.2⟩
    · rw [jstep_no L t s hc]; exact h.append hs
theorem joinR_ir (l : List R) : ∀ out, IR out → IR l → IR (l.foldl jstep out) := by
  induction l with
  | nil => intro out h _; exact h
  | cons r l ih => intro out h hl; exact ih _ (jstep_ir h (fun q hq => by simp at hq; subst hq; exact hl q (by simp))) (fun q hq => hl q (List.mem_cons_of_mem _ hq))
end Go.Proofs.Ytdpjblepcpjomaa.Rb
