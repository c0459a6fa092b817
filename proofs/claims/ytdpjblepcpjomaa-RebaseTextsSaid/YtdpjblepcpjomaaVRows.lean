/-
  Rows of slices of scraps of the call's own, each with a list behind it; and that the reference's Same and Kept only read. No program in sight but in the last two.
-/
import Derived.Test.YtdpjblepcpjomaaLLists
import Derived.Test.YtdpjblepcpjomaaSRefc
namespace Go.Proofs.Ytdpjblepcpjomaa.Rb
open Go.RowKit
theorem info22 : (Try.prog.info? 22).map (fun i => (i.zero, i.size, i.bytes)) = some (some (.slice none 0 0), 1, 24) := by kernel_rfl
def OwnV (w : World) (base : Nat) (A : Option Addr) (n cap : Nat) (l : List Value) : Prop := l.length = n ∧ w.ownsRow base 22 1 (.slice A n cap) n l
theorem OwnV.get {w : World} {base : Nat} {A : Option Addr} {n cap : Nat} {l : List Value} (h : OwnV w base A n cap l) {k : Nat} {v : Value} (hs : l[k]? = some v) : ∃ b off, A = some ⟨b, off, none⟩ ∧ b < w.heap.size ∧ w.cell? ⟨b, off + k, none⟩ = some v := by
  obtain ⟨hl, h⟩ := h
  have hk : k < l.length := (List.getElem?_eq_some_iff.1 hs).1
  have h2 := h.2
  rcases h2 with ⟨hv, hn⟩ | ⟨g, cap', cur, hv, hbg, hg, hr⟩
  · omega
  · injection hv with ha hn hc
    subst ha; subst hc
    have hlt : g < w.heap.size := (Array.getElem?_eq_some_iff.1 hg).1
    refine ⟨g, 0, rfl, hlt, ?_⟩
    rw [h.cellAt _ (by omega), Nat.zero_add, hs]
theorem OwnV.nil (w : World) (base : Nat) : OwnV w base none 0 0 [] := ⟨rfl, World.ownsRow_nil _ _ _ _⟩
theorem OwnV.below {w w' : World} {base : Nat} {A : Option Addr} {n cap B : Nat} {l : List Value} (h : OwnV w base A n cap l) (hb : Below B w w') (hB : w.heap.size ≤ B) : OwnV w' base A n cap l :=
  ⟨h.1, h.2.kept (row := none) ⟨hb.os, hb.tape, hb.output, hb.size, fun k hk _ => hb.block k (by omega)⟩ (by cases A <;> simp [Value.ownBlock])⟩
theorem OwnV.up {w w' : World} {base : Nat} {A : Option Addr} {n cap : Nat} {l : List Value} (h : OwnV w base A n cap l) (hb : Below w.heap.size w w') : OwnV w' base A n cap l := h.below hb (Nat.le_refl _)
theorem OwnV.alloc {w : World} {base : Nat} {A : Option Addr} {n cap : Nat} {l : List Value} (h : OwnV w base A n cap l) (o : Obj) : OwnV (w.alloc o) base A n cap l := ⟨h.1, h.2.alloc o⟩
theorem OwnV.drewN {w : World} {base : Nat} {A : Option Addr} {n cap : Nat} {l : List Value} (h : OwnV w base A n cap l) (k : Nat) : OwnV (w.drewN k) base A n cap l := h
theorem OwnV.cap {w : World} {base : Nat} {A : Option Addr} {n cap : Nat} {l : List Value} (h : OwnV w base A n cap l) : n ≤ cap ∧ cap ≤ maxLen := by
  obtain ⟨hl, h1, h2⟩ := h
  rcases h2 with ⟨hv, hn'⟩ | ⟨g, cap', cur, hv, hbg, hg, hnc, hcm, _⟩
  · injection hv with _ hn hc
    subst hc; omega
  · injection hv with ha _ hc
    subst hc
    exact ⟨hnc, hcm⟩
theorem ext_of_ownV {w' : World} {base : Nat} {v : Value} {n : Nat} {xs : List Value} (h : w'.ownsRow base 22 1 v n xs) : ∃ A cap, v = .slice A n cap := by
  rcases h.2 with ⟨hv, hn⟩ | ⟨g, cap', cur, hv, _⟩
  · subst hn; exact ⟨_, _, hv⟩
  · exact ⟨_, _, hv⟩
theorem appV_step {w wr W0 w1 : World} {BB n m c : Nat} {A' : Option Addr} {L K : List Value} {v' : Value} (hown : OwnV wr BB A' n c L) (hb : Below BB w wr) (hsz : BB ≤ wr.heap.size)
    (hW : Below wr.heap.size wr W0) (hK : K.length = m) (hown' : w1.ownsRow BB 22 1 v' (n+m) (L ++ K)) (hg : W0.grownBy w1 (Value.slice A' n c).ownBlock) :
    (∃ A'' c'', v' = .slice A'' (n+m) c'' ∧ OwnV w1 BB A'' (n+m) c'' (L ++ K)) ∧ Below BB w w1 ∧ Below BB wr w1 ∧ W0.heap.size ≤ w1.heap.size ∧ (∀ g o, wr.heap.size ≤ g → g < W0.heap.size → w1.cell? ⟨g, o, none⟩ = W0.cell? ⟨g, o, none⟩) := by
  have hr : ∀ k, (Value.slice A' n c).ownBlock = some k → BB ≤ k ∧ k < wr.heap.size := hown.2.lt
  refine ⟨?_, ?_, (hW.mono hsz).grown hg (by have := hW.size; omega) (fun k hk => (hr k hk).1), hg.size, ?_⟩
  · obtain ⟨A'', c'', rfl⟩ := ext_of_ownV hown'
    exact ⟨A'', c'', rfl, by simp [hown.1, hK], hown'⟩
  · exact (hb.trans (hW.mono hsz)).grown hg (by have := hW.size; omega) (fun k hk => (hr k hk).1)
  · intro g o h1 h2
    exact World.cell?_of_block (w := W0) (a := ⟨g, o, none⟩) (hg.block g h2 (fun e => by have := (hr g e.symm).2; omega))
/-- Blocks beside the row stay. -/
theorem beside_step {W0 w1 : World} {A' : Option Addr} {n c g : Nat} (hg : W0.grownBy w1 (Value.slice A' n c).ownBlock) (hlt : g < W0.heap.size) (hne : (Value.slice A' n c).ownBlock ≠ some g) (o : Nat) : w1.cell? ⟨g, o, none⟩ = W0.cell? ⟨g, o, none⟩ :=
  World.cell?_of_block (w := W0) (a := ⟨g, o, none⟩) (hg.block g hlt (fun e => hne e.symm))
theorem newv_one (w : World) (v : Value) (g : Nat) (hg : g = w.heap.size) : ∀ j u, ([v] : List Value)[j]? = some u → (w.alloc (.cells #[v] 22)).cell? ((⟨g, 0, none⟩ : Addr).add j) = some u := by
  subst hg
  intro j u hu
  have hadd : (⟨w.heap.size, 0, none⟩ : Addr).add j = ⟨w.heap.size, j, none⟩ := by unfold Addr.add; split <;> simp_all
  rw [hadd, Sc.cell_new]
  match j, hu with
  | 0, hu => simpa using hu
  | j+1, hu => simp at hu
/-- What an element of the row is: a slice whose block is not the row's, that reads as a list, with m behind it in its room. -/
def LV (w : World) (row : Option Nat) (v : Value) (m l : List S) : Prop :=
  ∃ A c, v = .slice A l.length c ∧ l.length + m.length ≤ c ∧ c ≤ 9223372036854775807 ∧ (l ++ m ≠ [] → ∀ b off, A = some ⟨b, off, none⟩ → some b ≠ row) ∧ Sc.Rd w w.heap.size A (l ++ m)
theorem LV.up {w w' : World} {row : Option Nat} {v : Value} {m l : List S} (h : LV w row v m l) (hb : Below w.heap.size w w') : LV w' row v m l := by
  obtain ⟨A, c, h1, h2, h3, h4, h5⟩ := h
  exact ⟨A, c, h1, h2, h3, h4, h5.up hb⟩
theorem LV.grown {W0 w1 : World} {row row' : Option Nat} {v : Value} {m l : List S} (h : LV W0 row v m l) (hg : W0.grownBy w1 row) (hr : row' = row ∨ row' = some W0.heap.size) : LV w1 row' v m l := by
  obtain ⟨A, c, h1, h2, h3, h4, h5⟩ := h
  by_cases hlm : l ++ m = []
  · have e : l = [] := (List.append_eq_nil_iff.1 hlm).1
    have e2 : m = [] := (List.append_eq_nil_iff.1 hlm).2
    subst e; subst e2
    exact ⟨A, c, h1, h2, h3, fun h => absurd rfl h, by rw [List.nil_append]; exact Sc.Rd.nil _ _ _⟩
  · obtain ⟨s, hs⟩ := Sc.get_some (l ++ m) 0 (by cases hx : l ++ m with
      | nil => exact absurd hx hlm
      | cons => simp)
    obtain ⟨b, off, rfl, hb, _⟩ := h5 0 s hs
    have hne := h4 hlm b off rfl
    refine ⟨_, c, h1, h2, h3, ?_, ?_⟩
    · intro _ b' off' e
      cases e
      rcases hr with rfl | rfl
      · exact hne
      · intro e; cases e; omega
    · intro k t ht
      obtain ⟨b2, off2, e2, hb2, c0, c1, c2⟩ := h5 k t ht
      cases e2
      have hk : ∀ o, w1.cell? ⟨b, o, none⟩ = W0.cell? ⟨b, o, none⟩ := fun o => World.cell?_of_block (w := W0) (a := ⟨b, o, none⟩) (hg.block b hb (fun e => hne e))
      exact ⟨b, off, rfl, by have := hg.size; omega, (hk _).trans c0, (hk _).trans c1, (hk _).trans c2⟩
def LVs (w : World) (row : Option Nat) (vs : List Value) (m : List S) (ls : List (List S)) : Prop := ∀ (k : Nat) (l : List S), ls[k]? = some l → ∃ v, vs[k]? = some v ∧ LV w row v m l
theorem LVs.nil (w : World) (row : Option Nat) (vs : List Value) (m : List S) : LVs w row vs m [] := fun k l h => by simp at h
theorem LVs.up {w w' : World} {row : Option Nat} {vs : List Value} {m : List S} {ls : List (List S)} (h : LVs w row vs m ls) (hb : Below w.heap.size w w') : LVs w' row vs m ls := fun k l hl => by
  obtain ⟨v, h1, h2⟩ := h k l hl
  exact ⟨v, h1, h2.up hb⟩
theorem LVs.grown {W0 w1 : World} {row row' : Option Nat} {vs : List Value} {m : List S} {ls : List (List S)} {v : Value} {l : List S} (h : LVs W0 row vs m ls) (hlen : vs.length = ls.length) (hv : LV W0 row v m l) (hg : W0.grownBy w1 row) (hr : row' = row ∨ row' = some W0.heap.size) : LVs w1 row' (vs ++ [v]) m (ls ++ [l]) := by
  intro k l' hl
  by_cases hk : k < ls.length
  · rw [List.getElem?_append_left hk] at hl
    obtain ⟨v', h1, h2⟩ := h k l' hl
    exact ⟨v', by rw [List.getElem?_append_left (by omega)]; exact h1, h2.grown hg hr⟩
  · rw [List.getElem?_append_right (by omega)] at hl
    have e : k - ls.length = 0 := by
      by_cases h0 : k - ls.length = 0
      · exact h0
      · rw [List.getElem?_eq_none (by simp; omega)] at hl; cases hl
    rw [e] at hl
    simp at hl; subst hl
    exact ⟨v, by rw [List.getElem?_append_right (by omega), hlen, e]; rfl, hv.grown hg hr⟩
theorem LVs.rdl {w : World} {base : Nat} {A : Option Addr} {n c : Nat} {row : Option Nat} {vs : List Value} {m : List S} {ls : List (List S)} (h : LVs w row vs m ls) (ho : OwnV w base A n c vs) : Sc.RdL w w.heap.size A ls := by
  intro k l hl
  obtain ⟨v, h1, Ak, ck, rfl, _, _, _, h2⟩ := h k l hl
  obtain ⟨b, off, e, hb, hc⟩ := ho.get h1
  exact ⟨b, off, Ak, ck, e, hb, hc, h2.left⟩
theorem same_q (A : Option Addr) (len cap : Nat) (A2 : Option Addr) (len2 cap2 : Nat) (w : World) (l : List S) (hlen : l.length = len) (hr : Sc.Rd w w.heap.size A l) (hm : len ≤ 9223372036854775807) (hlen2 : len2 = len) (hr2 : Sc.Rd w w.heap.size A2 l) :
    Calls Try.prog 19 #[.slice A len cap, .slice A2 len2 cap2] w fun e w' => e = .returned (.bool true) ∧ ∃ n, w' = w.drewN n := by
  subst hlen2
  have H := Lib.hid hlen; have HR := Lib.hid hr; have HR2 := Lib.hid hr2
  clear hlen hr hr2
  go_enter Try.func19, Try.ntmps19
  go_wp2_with fail
  go_loopw [5] (fun i wr => ∃ k : Nat, k ≤ len2 ∧ i = .int .i64 k ∧ ∃ n, wr = w.drewN n) (fun i _ => len2 - (intOf i).toNat)
  case atStart => exact ⟨0, Nat.zero_le _, rfl, 0, rfl⟩
  case round =>
    obtain ⟨k, hk, rfl, n, rfl⟩ := hrel
    by_cases hlt : k < len2
    · obtain ⟨s, hs⟩ := Sc.get_some l k (by have := H.out; omega)
      obtain ⟨b, off, rfl, hb', h0, h1, h2⟩ := HR.out k s hs
      obtain ⟨b2, off2, rfl, hb2', g0, g1, g2⟩ := HR2.out k s hs
      clear hs
      go_wp2_with fail
      go_quiet (fail)
      go_wp2_with fail
      go_roundw
      case rel => exact ⟨k+1, by omega, by go_num, _, rfl⟩
      case measure => simp [intOf]; omega
    · obtain rfl : k = len2 := by omega
      clear hlt
      go_wp2_with fail
      go_ret
      exact ⟨rfl, n, rfl⟩
theorem kept_q (A : Option Addr) (len cap : Nat) (A2 : Option Addr) (cap2 : Nat) (w : World) (l : List S) (hlen : l.length = len) (hr : Sc.Rd w w.heap.size A (l ++ Sc.mk2)) (hcap : len + 2 ≤ cap) (hcap2 : cap ≤ 9223372036854775807) (hr2 : Sc.Rd w w.heap.size A2 l) :
    Calls Try.prog 13 #[.slice A len cap, .slice A2 len cap2] w fun e w' => e = .returned (.bool true) ∧ ∃ n, w' = w.drewN n := by
  have H := Lib.hid hlen; have HR := Lib.hid hr; have HR2 := Lib.hid hr2
  clear hlen hr hr2
  go_enter Try.func13, Try.ntmps13
  go_wp2_with fail
  refine (same_q A len cap A2 len cap2 _ l H.out HR.out.left (by omega) rfl HR2.out).mono ?_
  rintro e w1 ⟨rfl, n, rfl⟩
  obtain ⟨b, off, rfl, hb', c0, _, _⟩ := HR.out len ⟨7, 7, 7⟩ (by rw [List.getElem?_append_right (by have := H.out; omega), H.out, Nat.sub_self]; rfl)
  obtain ⟨b2, off2, e2, _, d0, _, _⟩ := HR.out (len+1) ⟨8, 8, 8⟩ (by rw [List.getElem?_append_right (by have := H.out; omega), H.out]; have e : len + 1 - len = 1 := by omega
                                                                     rw [e]; rfl)
  cases e2
  simp only at c0 d0
  clear hb'
  go_wp2_with fail
  go_ret
  exact ⟨rfl, _, rfl⟩
end Go.Proofs.Ytdpjblepcpjomaa.Rb
