/-
  The bytes of a piece are the piece of the bytes; what cutting, splicing and joining give, by their bytes. No program in sight.
-/
import Derived.Test.YtlgablhlpcmcaaaBts
import Derived.Test.YtlgablhlpcmcaaaLawa
namespace Go.Proofs.Ytlgablhlpcmcaaa
open Go.RowKit
theorem sb_cut (s : S) (a b : Int) (ha : 0 ≤ a) (hab : a < b) (hb : b ≤ s.len) : sb ⟨s.src, s.at_ + a, b - a⟩ = ((sb s).take b.toNat).drop a.toNat := by
  obtain ⟨a, rfl⟩ := Int.eq_ofNat_of_zero_le ha
  obtain ⟨b, rfl⟩ := Int.eq_ofNat_of_zero_le (show 0 ≤ b by omega)
  apply List.ext_getElem
  · simp [sb]; omega
  · intro i h1 h2
    simp [sb]
    omega
theorem bts_bit (s : S) (f t : Int) (_h : 1 ≤ s.len) : bts (bit s f t) = ((sb s).take t.toNat).drop f.toNat := by
  by_cases hc : f < s.len ∧ 0 < t ∧ f < t
  · rw [bit_yes hc rfl rfl, bts_one]
    have h1 : (if f < 0 then (0 : Int) else f) = max f 0 := by omega
    have h2 : (if s.len < t then s.len else t) = min t s.len := by omega
    rw [h1, h2, sb_cut s (max f 0) (min t s.len) (by omega) (by omega) (by omega)]
    have e1 : (max f 0).toNat = f.toNat := by omega
    rw [e1]
    have e2 : (sb s).take (min t s.len).toNat = (sb s).take t.toNat := by
      by_cases ht : t ≤ s.len
      · rw [Int.min_eq_left ht]
      · rw [List.take_of_length_le (i := (min t s.len).toNat) (by rw [sb_length]; omega), List.take_of_length_le (by rw [sb_length]; omega)]
    rw [e2]
  · rw [bit_no hc]
    symm
    apply List.drop_eq_nil_of_le
    rw [List.length_take, sb_length]
    omega
theorem bts_partL {l : List S} (h : Ok l) (f t : Int) : bts (partL l f t) = ((bts l).take t.toNat).drop f.toNat := by
  induction l generalizing f t with
  | nil => simp [partL, bts]
  | cons a l ih =>
    have ha := h a (by simp)
    unfold okS at ha
    rw [partL, bts_append, bts_bit a f t (by omega), ih h.tail, bts_cons, List.take_append, List.drop_append, List.length_take, sb_length]
    have e1 : (f - a.len).toNat = f.toNat - a.len.toNat := by omega
    have e2 : (t - a.len).toNat = t.toNat - a.len.toNat := by omega
    rw [e1, e2]
    congr 1
    by_cases ht : a.len.toNat ≤ t.toNat
    · rw [Nat.min_eq_right ht]
    · have e3 : t.toNat - a.len.toNat = 0 := by omega
      rw [e3]; simp
theorem tot_partL {l : List S} (h : Ok l) (f t : Int) (hf : 0 ≤ f) (hft : f ≤ t) (ht : t ≤ tot l) : tot (partL l f t) = t - f := by
  rw [← bts_length (partL_ok h f t), bts_partL h, List.length_drop, List.length_take]
  have := bts_length h
  omega
/-- Whether a list may be is whether its joined list may. -/
theorem may_joinL {l : List S} (h : Ok l) (ht : tot l ≤ 1099511627776) : MayP (joinL l) := ⟨joinL_ok h, by rw [tot_joinL]; exact ht⟩

/-! ### What the law ScrapJoined asks -/
theorem joined_cut {l : List S} (h : MayP l) (at_ : Int) (a0 : 0 ≤ at_) (a1 : at_ ≤ tot l) :
    MayP (joinL (partL l 0 at_) ++ joinL (partL l at_ (tot l))) ∧ joinL (joinL (partL l 0 at_) ++ joinL (partL l at_ (tot l))) = joinL l := by
  have o1 := partL_ok h.1 0 at_
  have o2 := partL_ok h.1 at_ (tot l)
  have t1 := tot_partL h.1 0 at_ (by omega) (by omega) a1
  have t2 := tot_partL h.1 at_ (tot l) (by omega) (by omega) (by omega)
  have hb := bts_length h.1
  refine ⟨⟨(joinL_ok o1).append (joinL_ok o2), ?_⟩, ?_⟩
  · rw [tot_append, tot_joinL, tot_joinL, t1, t2]; have := h.2; omega
  · apply joinL_congr ((joinL_ok o1).append (joinL_ok o2)) h.1
    rw [bts_append, bts_joinL o1, bts_joinL o2, bts_partL h.1, bts_partL h.1]
    have e : (bts l).take (tot l).toNat = bts l := List.take_of_length_le (by omega)
    rw [e]
    simp
theorem joined_splice {l : List S} (h : MayP l) (at_ n : Int) (a0 : 0 ≤ at_) (n0 : 0 ≤ n) (_a1 : at_ ≤ tot l) (_n1 : n ≤ tot l - at_) :
    joinL (partL l 0 at_ ++ (joinL (partL l at_ (at_ + n)) ++ partL l (at_ + n) (tot l))) = joinL l := by
  have o1 := partL_ok h.1 0 at_
  have o2 := partL_ok h.1 at_ (at_ + n)
  have o3 := partL_ok h.1 (at_ + n) (tot l)
  have hb := bts_length h.1
  apply joinL_congr (o1.append ((joinL_ok o2).append o3)) h.1
  rw [bts_append, bts_append, bts_joinL o2, bts_partL h.1, bts_partL h.1, bts_partL h.1]
  have e : (bts l).take (tot l).toNat = bts l := List.take_of_length_le (by omega)
  have e2 : (at_ + n).toNat = at_.toNat + n.toNat := by omega
  simp only [Int.toNat_zero, List.drop_zero]
  rw [e, e2, List.drop_take]
  have e3 : at_.toNat + n.toNat - at_.toNat = n.toNat := by omega
  rw [e3, ← List.drop_drop, List.take_append_drop, List.take_append_drop]

/-! ### What the law ScrapUndone asks -/
theorem undone_may {l put : List S} (h : MayP l) (hp : MayP put) (at_ n : Int) (a0 : 0 ≤ at_) (n0 : 0 ≤ n) (a1 : at_ ≤ tot l) (n1 : n ≤ tot l - at_) (hbig : tot l - n + tot put ≤ 1099511627776) :
    MayP (joinL (partL l 0 at_ ++ (put ++ partL l (at_ + n) (tot l)))) ∧ tot (joinL (partL l 0 at_ ++ (put ++ partL l (at_ + n) (tot l)))) = tot l - n + tot put := by
  have o1 := partL_ok h.1 0 at_
  have o3 := partL_ok h.1 (at_ + n) (tot l)
  have t1 := tot_partL h.1 0 at_ (by omega) (by omega) a1
  have t3 := tot_partL h.1 (at_ + n) (tot l) (by omega) (by omega) (by omega)
  have ht : tot (joinL (partL l 0 at_ ++ (put ++ partL l (at_ + n) (tot l)))) = tot l - n + tot put := by
    rw [tot_joinL, tot_append, tot_append, t1, t3]; omega
  exact ⟨⟨joinL_ok (o1.append (hp.1.append o3)), by rw [ht]; exact hbig⟩, ht⟩
theorem undone_splice {l put : List S} (h : MayP l) (hp : MayP put) (at_ n : Int) (a0 : 0 ≤ at_) (n0 : 0 ≤ n) (a1 : at_ ≤ tot l) (n1 : n ≤ tot l - at_) (hbig : tot l - n + tot put ≤ 1099511627776)
    (x : List S) (hx : x = joinL (partL l 0 at_ ++ (put ++ partL l (at_ + n) (tot l)))) :
    spliceE x at_ (tot put) (joinL (partL l at_ (at_ + n))) = 0 ∧ spliceL x at_ (tot put) (joinL (partL l at_ (at_ + n))) = joinL l := by
  have hu := undone_may h hp at_ n a0 n0 a1 n1 hbig
  rw [← hx] at hu
  obtain ⟨hxm, hxt⟩ := hu
  have o1 := partL_ok h.1 0 at_
  have o2 := partL_ok h.1 at_ (at_ + n)
  have o3 := partL_ok h.1 (at_ + n) (tot l)
  have t2 := tot_partL h.1 at_ (at_ + n) (by omega) (by omega) (by omega)
  have hb := bts_length h.1
  have hbp := bts_length hp.1
  have pm : MayP (joinL (partL l at_ (at_ + n))) := may_joinL o2 (by have := h.2; omega)
  have p0 := tot_nonneg put hp.1
  have hE : spliceE x at_ (tot put) (joinL (partL l at_ (at_ + n))) = 0 := by
    unfold spliceE
    rw [if_neg (by simpa using ⟨hxm, pm⟩), if_neg (by omega), if_neg (by rw [tot_joinL, t2, hxt]; have := h.2; omega)]
  refine ⟨hE, ?_⟩
  unfold spliceL
  rw [if_pos hE]
  have oX := hxm.1
  apply joinL_congr ((partL_ok oX 0 at_).append (pm.1.append (partL_ok oX _ _))) h.1
  have hbx : bts x = (bts l).take at_.toNat ++ (bts put ++ (bts l).drop (at_.toNat + n.toNat)) := by
    rw [hx, bts_joinL (o1.append (hp.1.append o3)), bts_append, bts_append, bts_partL h.1, bts_partL h.1]
    have e : (bts l).take (tot l).toNat = bts l := List.take_of_length_le (by omega)
    have e2 : (at_ + n).toNat = at_.toNat + n.toNat := by omega
    rw [e, e2]; simp
  have hlx := bts_length oX
  rw [bts_append, bts_append, bts_joinL o2, bts_partL oX, bts_partL oX, bts_partL h.1]
  have e : (bts x).take (tot x).toNat = bts x := List.take_of_length_le (by omega)
  rw [e]
  have l1 : ((bts l).take at_.toNat).length = at_.toNat := by rw [List.length_take]; omega
  have ex1 : (bts x).take at_.toNat = (bts l).take at_.toNat := by
    rw [hbx, List.take_append_of_le_length (by omega), List.take_take, Nat.min_self]
  have e2 : (at_ + tot put).toNat = at_.toNat + (bts put).length := by omega
  have ex2 : (bts x).drop (at_ + tot put).toNat = (bts l).drop (at_.toNat + n.toNat) := by
    rw [hbx, e2, ← List.append_assoc, List.drop_left' (by rw [List.length_append, l1])]
  have e3 : (at_ + n).toNat = at_.toNat + n.toNat := by omega
  have e4 : at_.toNat + n.toNat - at_.toNat = n.toNat := by omega
  simp only [Int.toNat_zero, List.drop_zero]
  rw [ex1, ex2, e3, List.drop_take, e4, ← List.drop_drop, List.take_append_drop, List.take_append_drop]
end Go.Proofs.Ytlgablhlpcmcaaa
