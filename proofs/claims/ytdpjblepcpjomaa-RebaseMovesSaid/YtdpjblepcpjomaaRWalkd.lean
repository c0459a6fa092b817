/-
  What ranges.Total, Fit and Either answer.
-/
import Derived.Test.YtdpjblepcpjomaaRWalkc
import Derived.Test.YtdpjblepcpjomaaRCount
namespace Go
theorem wpList_append_any {P : Program} {w : World} {ops : Array Oper} {rest : List Oper} {o : Oper} {a : Act} {Q : Exit → Act → World → Prop} (hgd : o.guard = none) (s x : Operand) (t : TypeId)
    (ho : o.op = .call { callee := .builtin .append, args := #[s, x], argTypes := #[t, t] })
    (base : Nat) (e : TypeId) (i : TypeInfo) (z : Value) (size bytes : Nat) (ht : P.underlying t = some (.slice e)) (hi : P.info? e = some i) (hz : i.zero = some z)
    (hsize : i.size = size) (hby : i.bytes = bytes) (hzs : z.cells.size = size) (hsz : 0 < size)
    (v : Value) (n : Nat) (xs : List Value) (hs : a.eval s = v) (hown : w.ownsRow base e size v n xs)
    (A : Option Addr) (m c : Nat) (news : List Value) (hx : a.eval x = .slice A m c) (hnone : A = none → m = 0 ∧ c = 0) (hl : news.length = m * size) (hnews : ∀ ad, A = some ad → ∀ j u, news[j]? = some u → w.cell? (ad.add j) = some u) (h1 : ∀ u ∈ news, u.oneCell' = true)
    (h63 : n + m ≤ maxLen) (hbytes : (n + m) * bytes ≤ 140737488355328) (hbase : base ≤ w.heap.size)
    (h : ∀ v' w', w'.ownsRow base e size v' (n + m) (xs ++ news) → w.grownBy w' v.ownBlock → wpList P ops Q rest (a.put o.dst v') w') : wpList P ops Q (o :: rest) a w := by
  cases A with
  | none =>
    obtain ⟨rfl, rfl⟩ := hnone rfl
    have hn : news = [] := List.eq_nil_of_length_eq_zero (by simpa using hl)
    subst hn
    refine wpList_append_own_none hgd s x t ho base e i size ht hi v n xs hs hown hx (h v w ?_ (World.grownBy.refl _ _))
    simpa using hown
  | some ad =>
    exact wpList_append_own w hgd s x t ho base e i z size bytes ht hi hz hsize hby hzs hsz v n xs hs hown ad m c news hx hl (hnews ad rfl) h1 h63 hbytes hbase (fun v' w' h1 h2 _ => h v' w' h1 h2)
end Go
namespace Go.Proofs.Ytdpjblepcpjomaa
open Go.RowKit
theorem right_take {l : List R} (h : Right l) (k : Nat) : Right (l.take k) := by
  have e : l = l.take k ++ l.drop k := (List.take_append_drop ..).symm
  unfold Right at *
  rw [e, right_append] at h
  exact h.1
theorem nn_take {l : List R} (h : Nn l) (k : Nat) : Nn (l.take k) := fun r hr => h r (List.mem_of_mem_take hr)
theorem Total_any (A : Option Addr) (len cap : Nat) (w : World) (l : List R) (hlen : l.length = len) (hr : Rd w w.heap.size A l) (hI : IR l) (hm : len ≤ 1099511627776) :
    Calls Try.prog 35 #[.slice A len cap] w fun e w' => e = .returned (.int .i64 (tot (nl l))) ∧ Below w.heap.size w w' := by
  have H := Lib.hid hlen; have HR := Lib.hid hr; have HI := Lib.hid hI
  clear hlen hr hI
  go_enter Try.func35, Try.ntmps35
  go_wp2_with fail
  refine (Normal_any A len cap _ l H.out HR.out HI.out hm).mono ?_
  rintro e w1 ⟨⟨A', n, c, rfl, hown⟩, hb⟩
  have hl := hown.1
  have hn : n ≤ 1099511627776 := by have := nl_len l; have := H.out; omega
  have hrd := Lib.hid hown.rd
  have HO := Lib.hid hown; have HB := Lib.hid hb; have HL := Lib.hid hl
  have HN := Lib.hid (nl_nn HI.out)
  have HT := Lib.hid (nl_is l).1
  clear hown hb hl H HR HI
  go_wp2_with fail
  go_loopw [3, 9] (fun t i wr => ∃ k : Nat, k ≤ n ∧ i = .int .i64 k ∧ t = .int .i64 (tot ((nl l).take k)) ∧ Below w1.heap.size w1 wr) (fun _ i _ => n - (intOf i).toNat)
  case atStart => exact ⟨0, Nat.zero_le _, rfl, rfl, Below.refl _ _⟩
  case round =>
    obtain ⟨k, hk, rfl, rfl, hb⟩ := hrel
    by_cases hlt : k < n
    · obtain ⟨s, hs⟩ := get_some (nl l) k (by have := HL.out; omega)
      obtain ⟨b, off, rfl, hb', h0, h1⟩ := hrd.out.below hb (Nat.le_refl _) k s hs
      obtain ⟨s0, s1, s2⟩ := HN.out s (List.mem_of_getElem? hs)
      have e1 : tot ((nl l).take (k+1)) = tot ((nl l).take k) + (s.2 - s.1) := by rw [take_snoc (nl l) k s hs, tot_snoc]
      obtain ⟨q0, q1⟩ := tot_bound (right_take HT.out k) (nn_take HN.out k)
      obtain ⟨q2, q3⟩ := tot_bound (right_take HT.out (k+1)) (nn_take HN.out (k+1))
      rw [e1] at q2 q3
      have E1 := Lib.hid e1
      clear hs e1
      generalize tot ((nl l).take k) = T at *
      go_wp2_with fail
      go_roundw
      case rel => exact ⟨k+1, by omega, by go_num, by rw [E1.out], hb.alloc hb.size _⟩
      case measure => simp [intOf]; omega
    · obtain rfl : k = n := by omega
      clear hlt
      have e2 : tot ((nl l).take k) = tot (nl l) := by rw [List.take_of_length_le (Nat.le_of_eq HL.out)]
      have E2 := Lib.hid e2
      clear e2
      go_wp2_with fail
      go_ret
      exact ⟨ret_int E2.out, below_up HB.out hb⟩
theorem fit_stop {m : List R} {k : Nat} {s : R} (hs : m[k]? = some s) {n : Int} (h : ∀ r ∈ m.take k, r.2 - r.1 < n) (h0 : n ≤ s.2 - s.1) : fitL m n = some s.1 := by
  obtain ⟨hk, e⟩ := List.getElem?_eq_some_iff.1 hs
  have e1 : m = m.take k ++ s :: m.drop (k+1) := by rw [← e, ← List.drop_eq_getElem_cons hk, List.take_append_drop]
  have e2 : (m.take k).find? (fun r => decide (n ≤ r.2 - r.1)) = none := by
    rw [List.find?_eq_none]
    intro r hr
    have := h r hr
    simp; omega
  unfold fitL
  rw [e1, List.find?_append, e2]
  simp [h0]
theorem fit_end {m : List R} {n : Int} (h : ∀ r ∈ m, r.2 - r.1 < n) : fitL m n = none := by
  unfold fitL
  rw [Option.map_eq_none_iff, List.find?_eq_none]
  intro r hr
  have := h r hr
  simp; omega
/-- What Fit answers. -/
def fitE : Option Int → Ending
  | none => .returned (.tuple #[.int .i64 0, .bool false])
  | some a => .returned (.tuple #[.int .i64 a, .bool true])
theorem Own.lit (w : World) (base : Nat) (hb : base ≤ w.heap.size) : Own (w.alloc (.cells #[] 52)) base (some ⟨w.heap.size, 0, Option.none⟩) 0 0 [] :=
  ⟨rfl, by simpa [cells] using World.ownsRow_lit (size := 2) (e := 52) w #[] 0 hb (by unfold maxLen; omega) rfl⟩
theorem Either_any (A : Option Addr) (len cap : Nat) (A2 : Option Addr) (len2 cap2 : Nat) (w : World) (l m : List R) (hlen : l.length = len) (hr : Rd w w.heap.size A l) (hI : IR l) (hno : A = none → len = 0 ∧ cap = 0)
    (hlen2 : m.length = len2) (hr2 : Rd w w.heap.size A2 m) (hI2 : IR m) (hno2 : A2 = none → len2 = 0 ∧ cap2 = 0) (hm : len ≤ 1000000) (hm2 : len2 ≤ 1000000) :
    Calls Try.prog 28 #[.slice A len cap, .slice A2 len2 cap2] w fun e w' => (∃ A' n c, e = .returned (.slice A' n c) ∧ Own w' w.heap.size A' n c (eitherR l m)) ∧ Below w.heap.size w w' := by
  obtain ⟨i0, hi, hz0, hz1, hz2⟩ := info_parts info29
  have H := Lib.hid hlen; have HR := Lib.hid hr; have HI := Lib.hid hI; have HN := Lib.hid hno
  have H2 := Lib.hid hlen2; have HR2 := Lib.hid hr2; have HI2 := Lib.hid hI2; have HN2 := Lib.hid hno2
  clear hlen hr hI hno hlen2 hr2 hI2 hno2
  go_enter Try.func28, Try.ntmps28
  go_wp2_with (at_builtin; refine wpList_append_any rfl (.tmp 5) (.tmp 6) 27 rfl w.heap.size 52 i0 _ 2 16 Try.underlying27 hi hz0 hz1 hz2 rfl (by decide) _ _ _ rfl (Own.lit w w.heap.size (Nat.le_refl _)).2 A len cap (cells l) rfl HN.out (by rw [cells_len, H.out]) (HR.out.alloc (Nat.le_refl _) _).cells' (cells_one_cell _) (by unfold maxLen; omega) (by omega) (by simp) ?_)
  intro v' w1 hown' hgrow
  have hown'' : w1.ownsRow w.heap.size 52 2 v' (0 + len) (cells [] ++ cells l) := by rw [Nat.zero_add]; exact hown'
  obtain ⟨⟨A5, c5, hv, hown5⟩, hbb, _, _, _⟩ := appL_step (w := w.alloc (.cells #[] 52)) (Own.lit w w.heap.size (Nat.le_refl _)) (Below.refl _ _) (by simp) (Below.refl _ _) H.out hown'' hgrow
  rw [Nat.zero_add, List.nil_append] at hown5
  rw [Nat.zero_add] at hv
  have hB1 : Below w.heap.size w w1 := ((Below.refl _ _).alloc (Nat.le_refl _) _).trans hbb
  have HO5 := Lib.hid hown5
  have HBB := Lib.hid hB1
  have hsz := hB1.size
  rw [hv]
  clear hown' hown'' hgrow hv hown5 hbb hB1
  go_wp2_with (at_builtin; refine wpList_append_any rfl (.tmp 7) (.tmp 8) 27 rfl w.heap.size 52 i0 _ 2 16 Try.underlying27 hi hz0 hz1 hz2 rfl (by decide) _ _ _ rfl HO5.out.2 A2 len2 cap2 (cells m) rfl HN2.out (by rw [cells_len, H2.out]) (HR2.out.below HBB.out (Nat.le_refl _)).cells' (cells_one_cell _) (by unfold maxLen; omega) (by omega) (by omega) ?_)
  intro v' w2 hown' hgrow
  obtain ⟨⟨A6, c6, hv, hown6⟩, hbb, _, _, _⟩ := appL_step HO5.out HBB.out hsz (Below.refl _ _) H2.out hown' hgrow
  have HO6 := Lib.hid hown6
  have HB6 := Lib.hid hbb
  have hs6 := hbb.size
  rw [hv]
  clear hown' hgrow hv hown6 hbb
  go_wp2_with fail
  refine (Normal_any A6 (len + len2) c6 _ (l ++ m) HO6.out.1 HO6.out.rd (HI.out.append HI2.out) (by omega)).mono ?_
  rintro e w3 ⟨⟨A', n, c, rfl, hown⟩, hb⟩
  have HO7 := Lib.hid hown; have HB7 := Lib.hid hb
  clear hown hb
  go_wp2_with fail
  go_ret
  exact ⟨⟨_, _, _, rfl, HO7.out.mono hs6⟩, HB6.out.trans (HB7.out.mono hs6)⟩
end Go.Proofs.Ytdpjblepcpjomaa
