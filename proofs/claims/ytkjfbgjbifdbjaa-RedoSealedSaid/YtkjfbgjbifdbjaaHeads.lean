/-
  Heads, plain: bytes are opened as the head that packs to them, or none; a bit turned is found.
-/
import Derived.Test.YtkjfbgjbifdbjaaWalkj
namespace Go.Proofs.Ytkjfbgjbifdbjaa
theorem dv_down (k : Nat) (n : Int) : dv k (n / 256) = dv (k+1) n := by
  induction k with
  | zero => rfl
  | succ k ih => show dv k (n / 256) / 256 = dv (k+1) n / 256; rw [ih]
theorem leB_succ (n : Int) (w : Nat) : leB n (w+1) = n % 256 :: leB (n / 256) w := by
  unfold leB
  rw [List.range_succ_eq_map, List.map_cons, List.map_map]
  congr 1
  apply List.map_congr_left
  intro i _
  show dv (i+1) n % 256 = dv i (n / 256) % 256
  rw [dv_down]
theorem leB_leVal (t : List Int) (h : Bytes t) : leB (leVal t) t.length = t := by
  induction t with
  | nil => rfl
  | cons b t ih =>
    obtain ⟨h0, h1⟩ := h b (by simp)
    rw [List.length_cons, leB_succ, leVal_cons]
    have e1 : (b + 256 * leVal t) % 256 = b := by omega
    have e2 : (b + 256 * leVal t) / 256 = leVal t := by omega
    rw [e1, e2, ih (fun c hc => h c (by simp [hc]))]
theorem leVal_leB (w : Nat) (n : Int) (h0 : 0 ≤ n) (h1 : n < 256 ^ w) : leVal (leB n w) = n := by
  induction w generalizing n with
  | zero => simp at h1; have : n = 0 := by omega
            subst this; rfl
  | succ w ih =>
    rw [leB_succ, leVal_cons, ih (n / 256) (by omega) (by rw [Int.pow_succ] at h1; generalize (256 : Int) ^ w = p at *; omega)]
    omega
theorem leVal_leB4 (n : Int) (h0 : 0 ≤ n) (h1 : n < 4294967296) : leVal (leB n 4) = n := leVal_leB 4 n h0 (by simpa using h1)
theorem split60 (q : List Int) (hq : q.length = 60) : q = (q.drop 0).take 8 ++ (q.drop 8).take 4 ++ (q.drop 12).take 1 ++ ((q.drop 13).take 4 ++ (q.drop 17).take 4) ++ (q.drop 21).take 39 := by
  have e : ∀ (a n : Nat), (q.drop a).take n ++ q.drop (a+n) = q.drop a := fun a n => by rw [← List.drop_drop, List.take_append_drop]
  have h21 : (q.drop 21).take 39 = q.drop 21 := List.take_of_length_le (by rw [List.length_drop, hq]; decide)
  rw [h21, List.append_assoc, List.append_assoc, List.append_assoc, List.append_assoc, e 17 4, e 13 4, e 12 1, e 8 4]
  have h8 := e 0 8
  simp
theorem parts_of (a b c d e f : List Int) (ha : a.length = 8) (hb : b.length = 4) (hc : c.length = 1) (hd : d.length = 4) (he : e.length = 4) (hf : f.length = 39) :
    ∀ q, q = a ++ b ++ c ++ (d ++ e) ++ f → (q.drop 0).take 8 = a ∧ (q.drop 8).take 4 = b ∧ (q.drop 12).take 1 = c ∧ (q.drop 13).take 4 = d ∧ (q.drop 17).take 4 = e ∧ (q.drop 21).take 39 = f := by
  intro q hq
  have h1 : q = a ++ (b ++ (c ++ (d ++ (e ++ f)))) := by rw [hq]; simp
  subst h1
  have d8 : (a ++ (b ++ (c ++ (d ++ (e ++ f))))).drop 8 = b ++ (c ++ (d ++ (e ++ f))) := List.drop_left' ha
  have d12 : (a ++ (b ++ (c ++ (d ++ (e ++ f))))).drop 12 = c ++ (d ++ (e ++ f)) := by rw [show (12 : Nat) = 8 + 4 from rfl, ← List.drop_drop, d8]; exact List.drop_left' hb
  have d13 : (a ++ (b ++ (c ++ (d ++ (e ++ f))))).drop 13 = d ++ (e ++ f) := by rw [show (13 : Nat) = 12 + 1 from rfl, ← List.drop_drop, d12]; exact List.drop_left' hc
  have d17 : (a ++ (b ++ (c ++ (d ++ (e ++ f))))).drop 17 = e ++ f := by rw [show (17 : Nat) = 13 + 4 from rfl, ← List.drop_drop, d13]; exact List.drop_left' hd
  have d21 : (a ++ (b ++ (c ++ (d ++ (e ++ f))))).drop 21 = f := by rw [show (21 : Nat) = 17 + 4 from rfl, ← List.drop_drop, d17]; exact List.drop_left' he
  rw [List.drop_zero, d8, d12, d13, d17, d21]
  exact ⟨List.take_left' ha, List.take_left' hb, List.take_left' hc, List.take_left' hd, List.take_left' he, List.take_of_length_le (by omega)⟩
theorem pre_parts (h : Hd) (q : List Int) (hq : q = preL h) : (q.drop 0).take 8 = lettersL ∧ (q.drop 8).take 4 = leB h.wave 4 ∧ (q.drop 12).take 1 = leB (bit h.ready) 1 ∧ (q.drop 13).take 4 = leB h.body 4 ∧ (q.drop 17).take 4 = leB h.sum 4 ∧ (q.drop 21).take 39 = List.replicate 39 0 :=
  parts_of _ _ _ _ _ _ rfl (leB_length _ _) (leB_length _ _) (leB_length _ _) (leB_length _ _) (by simp) q (by rw [hq, preL, headL])
theorem bit_decide (r : Bool) : decide (bit r = 1) = r := by cases r <;> rfl
theorem bit_back (v : Int) (h0 : 0 ≤ v) (h1 : v ≤ 1) : bit (decide (v = 1)) = v := by
  rcases (show v = 0 ∨ v = 1 by omega) with h | h <;> subst h <;> rfl
def sumOk (h : Hd) : Prop := 0 ≤ h.sum ∧ h.sum ≤ 4294967295
/-- What is packed is in form, and is opened as what was packed. -/
theorem pre_form (h : Hd) (ho : okH h) (hs : sumOk h) : formB (preL h) = true ∧ hdOf (preL h) = h := by
  obtain ⟨p0, p1, p2, p3, p4, p5⟩ := pre_parts h _ rfl
  obtain ⟨a0, a1, a2, a3⟩ := ho
  obtain ⟨b0, b1⟩ := hs
  obtain ⟨c0, c1⟩ := bit_bd h.ready
  have w1 : wv (preL h) = h.wave := by unfold wv; rw [p1]; exact leVal_leB4 _ a0 (by omega)
  have w2 : rv_ (preL h) = bit h.ready := by unfold rv_; rw [p2]; exact leVal_leB 1 _ c0 (by omega)
  have w3 : bv (preL h) = h.body := by unfold bv; rw [p3]; exact leVal_leB4 _ a2 (by omega)
  have w4 : sv (preL h) = h.sum := by unfold sv; rw [p4]; exact leVal_leB4 _ b0 (by omega)
  constructor
  · unfold formB zs
    rw [p0, p5, w1, w2, w3]
    simp [a1, a3, c1]
  · unfold hdOf
    rw [w1, w2, w3, w4, bit_decide]
theorem form_pre (q : List Int) (hq : q.length = 60) (hy : Bytes q) (hf : formB q = true) : preL (hdOf q) = q ∧ okH (hdOf q) ∧ sumOk (hdOf q) := by
  unfold formB zs at hf
  simp only [Bool.and_eq_true, decide_eq_true_eq, List.all_eq_true] at hf
  obtain ⟨f0, f1, f2, f3, f4⟩ := hf
  have hl : ∀ a n : Nat, a + n ≤ 60 → ((q.drop a).take n).length = n := fun a n h => by rw [List.length_take, List.length_drop, hq]; omega
  have hb : ∀ a n : Nat, Bytes ((q.drop a).take n) := fun a n => bytes_take (bytes_drop hy a) n
  have hback : ∀ a n : Nat, a + n ≤ 60 → leB (leVal ((q.drop a).take n)) n = (q.drop a).take n := fun a n h => by
    have := leB_leVal _ (hb a n)
    rwa [hl a n h] at this
  obtain ⟨r0, r1⟩ := one_bd hy
  refine ⟨?_, ⟨(four_bd hy 8).1, f2, (four_bd hy 13).1, f3⟩, ⟨(four_bd hy 17).1, by have := (four_bd hy 17).2; show leVal _ ≤ _; omega⟩⟩
  have hz : (q.drop 21).take 39 = List.replicate 39 0 := by
    rw [List.eq_replicate_iff]
    exact ⟨hl 21 39 (by omega), f4⟩
  have hs := split60 q hq
  rw [f0, hz] at hs
  rw [preL, headL, hdOf]
  show lettersL ++ leB (wv q) 4 ++ leB (bit (decide (rv_ q = 1))) 1 ++ (leB (bv q) 4 ++ leB (sv q) 4) ++ List.replicate 39 0 = q
  rw [bit_back _ r0 f1]
  unfold wv rv_ bv sv
  rw [hback 8 4 (by omega), hback 12 1 (by omega), hback 13 4 (by omega), hback 17 4 (by omega)]
  exact hs.symm
theorem take60 (h : Hd) : (packL h).take 60 = preL h ∧ (packL h).drop 60 = leB (crcOf (preL h)) 4 :=
  ⟨List.take_left' (pre_length h), List.drop_left' (pre_length h)⟩
theorem open_pack (h : Hd) (ho : okH h) (hs : sumOk h) : openP (packL h) = (h, 0) := by
  obtain ⟨e1, e2⟩ := take60 h
  have hc := crcOf_lt (pre_bytes h)
  unfold openP
  rw [if_neg (by rw [pack_length]; decide), e1, e2, leVal_leB4 _ (by omega) (by omega), if_neg (by simp), if_pos (pre_form h ho hs).1, (pre_form h ho hs).2]
/-- The reference's test. -/
theorem form_iff (l : List Int) (hl : l.length = 64) (hy : Bytes l) (hc : leVal (l.drop 60) = (crcOf (l.take 60) : Int)) : formB (l.take 60) = true ↔ okH (hdOf (l.take 60)) ∧ packL (hdOf (l.take 60)) = l := by
  have hq : (l.take 60).length = 60 := by rw [List.length_take, hl]; rfl
  have hyq := bytes_take hy 60
  have hcl := crcOf_lt hyq
  constructor
  · intro hf
    obtain ⟨h1, h2, h3⟩ := form_pre _ hq hyq hf
    refine ⟨h2, ?_⟩
    have h4 : leB (leVal (l.drop 60)) 4 = l.drop 60 := by
      have := leB_leVal (l.drop 60) (bytes_drop hy 60)
      rwa [List.length_drop, hl] at this
    rw [packL, h1, ← hc, h4, List.take_append_drop]
  · rintro ⟨ho, hp⟩
    have h5 := (four_bd hyq 17)
    have hs : sumOk (hdOf (l.take 60)) := ⟨h5.1, by show leVal _ ≤ _; omega⟩
    have h6 := (pre_form _ ho hs).1
    have h7 : preL (hdOf (l.take 60)) = l.take 60 := by
      rw [← (take60 (hdOf (l.take 60))).1, hp]
    rwa [h7] at h6
end Go.Proofs.Ytkjfbgjbifdbjaa
