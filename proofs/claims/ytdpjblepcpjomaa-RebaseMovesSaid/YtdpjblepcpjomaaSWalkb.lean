/-
  What scrap.part answers: the scraps of a list from one place to another one. Conditions: the list may be, the places lie within 2^40.
-/
import Derived.Test.YtdpjblepcpjomaaSWalka
import Derived.StillTailTactics
import Derived.Deep.RegionHeld3
namespace Go.Proofs.Ytdpjblepcpjomaa.Sc
open Go.RowKit
theorem info31 : (Try.prog.info? 56).map (fun i => (i.zero, i.size, i.bytes)) = some (some (.agg #[.int .i64 0, .int .i64 0, .int .i64 0]), 3, 24) := by kernel_rfl

/-- What one scrap gives to a piece. -/
def bit (s : S) (f t : Int) : List S := if f < s.len ∧ 0 < t ∧ f < t then [⟨s.src, s.at_ + max f 0, min t s.len - max f 0⟩] else []
theorem bit_yes {s : S} {f t x y : Int} (h : f < s.len ∧ 0 < t ∧ f < t) (hx : (if f < 0 then 0 else f) = x) (hy : (if s.len < t then s.len else t) = y) : bit s f t = [⟨s.src, s.at_ + x, y - x⟩] := by
  unfold bit
  rw [if_pos h]
  have e1 : max f 0 = x := by omega
  have e2 : min t s.len = y := by omega
  rw [e1, e2]
theorem bit_no {s : S} {f t : Int} (h : ¬ (f < s.len ∧ 0 < t ∧ f < t)) : bit s f t = [] := by
  unfold bit
  rw [if_neg h]
def partL : List S → Int → Int → List S
  | [], _, _ => []
  | s :: l, f, t => bit s f t ++ partL l (f - s.len) (t - s.len)
theorem partL_append (l m : List S) (f t : Int) : partL (l ++ m) f t = partL l f t ++ partL m (f - tot l) (t - tot l) := by
  induction l generalizing f t with
  | nil => simp [partL, tot]
  | cons a l ih =>
    simp only [List.cons_append, partL, tot, ih, List.append_assoc]
    congr 3 <;> omega
theorem partL_len (l : List S) (f t : Int) : (partL l f t).length ≤ l.length := by
  induction l generalizing f t with
  | nil => simp [partL]
  | cons a l ih =>
    have := ih (f - a.len) (t - a.len)
    have : (bit a f t).length ≤ 1 := by unfold bit; split <;> simp
    simp only [partL, List.length_append, List.length_cons]; omega
theorem partL_succ {l : List S} {k : Nat} {s : S} (hs : l[k]? = some s) (f t : Int) : partL (l.take (k+1)) f t = partL (l.take k) f t ++ bit s (f - tot (l.take k)) (t - tot (l.take k)) := by
  rw [take_snoc l k s hs, partL_append]; simp [partL]

end Go.Proofs.Ytdpjblepcpjomaa.Sc
