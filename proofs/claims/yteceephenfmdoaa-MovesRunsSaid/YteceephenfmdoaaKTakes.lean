/-
  KTakes: texts of one kind, one behind the other.
-/
import Derived.Test.YteceephenfmdoaaKFrame
import Derived.Deep.AppendLies
import Derived.Deep.RegionLaw
import Derived.Deep.LoopGhost
import Derived.Test.YteceephenfmdoaaRC
import Derived.Test.YteceephenfmdoaaRD
/-
  The steps that are not ordered yet, how many of them read each block, and those that are ordered: plain.
-/
namespace Go.Proofs.Yteceephenfmdoaa
def keysL : List Int := (List.range 20000).map fun (i : Nat) => (i : Int)
theorem mem_keysL (j : Int) : j ∈ keysL ↔ 0 ≤ j ∧ j < 20000 := by
  unfold keysL
  rw [List.mem_map]
  constructor
  · rintro ⟨i, hi, rfl⟩
    have := List.mem_range.1 hi
    omega
  · rintro ⟨h0, h1⟩
    exact ⟨j.toNat, List.mem_range.2 (by omega), by omega⟩
theorem nodup_keysL : keysL.Nodup := by
  unfold keysL
  rw [List.nodup_iff_pairwise_ne, List.pairwise_map]
  exact List.pairwise_lt_range.imp fun {i j} h => by omega
theorem len_keysL : keysL.length = 20000 := by unfold keysL; rw [List.length_map, List.length_range]
theorem count_one (K : List Int) (hn : K.Nodup) (p p' : Int → Bool) (b : Int) (hb : b ∈ K) (h : ∀ j, j ≠ b → p' j = p j) (hb' : p' b = false) : (K.filter p).length = (K.filter p').length + (if p b then 1 else 0) := by
  induction K with
  | nil => cases hb
  | cons a K ih =>
    rw [List.nodup_cons] at hn
    rw [List.filter_cons, List.filter_cons]
    by_cases hab : a = b
    · subst hab
      have e : K.filter p = K.filter p' := List.filter_congr fun x hx => (h x (fun e => hn.1 (e ▸ hx))).symm
      rw [e, hb']
      cases p a <;> simp
    · have hbK : b ∈ K := by
        rcases List.mem_cons.1 hb with e | e
        · exact absurd e.symm hab
        · exact e
      have e := ih hn.2 hbK
      rw [h a hab]
      cases p a <;> simp <;> omega
/-- What a step reads of the original. -/
def readsOf (st : List R) (s : StV) : List Int := reads s.blk s.parts st
def readsB (u : Int → Option StV) (st : List R) (k : Int) (j : Int) : Bool := match u j with | some s => decide (k ∈ readsOf st s) | none => false
/-- How many steps read a block. -/
def cntU (u : Int → Option StV) (st : List R) (k : Int) : Nat := (keysL.filter (readsB u st k)).length
theorem cntU_le (u : Int → Option StV) (st : List R) (k : Int) : cntU u st k ≤ 20000 := by
  unfold cntU
  have := List.length_filter_le (readsB u st k) keysL
  rw [len_keysL] at this
  exact this
def cardU (u : Int → Option StV) : Nat := (keysL.filter fun j => (u j).isSome).length
theorem cardU_le (u : Int → Option StV) : cardU u ≤ 20000 := by
  unfold cardU
  have := List.length_filter_le (fun j => (u j).isSome) keysL
  rw [len_keysL] at this
  exact this
theorem updS_same (u : Int → Option StV) (k : Int) (x : Option StV) : updS u k x k = x := by simp [updS]
theorem updS_other (u : Int → Option StV) {k j : Int} (x : Option StV) (h : j ≠ k) : updS u k x j = u j := by simp [updS, h]
theorem cntU_drop {u : Int → Option StV} {b : Int} {s : StV} (hs : u b = some s) (hb : b ∈ keysL) (st : List R) (k : Int) : cntU u st k = cntU (updS u b none) st k + (if k ∈ readsOf st s then 1 else 0) := by
  unfold cntU
  have h := count_one keysL nodup_keysL (readsB u st k) (readsB (updS u b none) st k) b hb (fun j hj => by unfold readsB; rw [updS_other _ _ hj]) (by unfold readsB; rw [updS_same])
  rw [h]
  have e : readsB u st k b = decide (k ∈ readsOf st s) := by unfold readsB; rw [hs]
  rw [e]
  by_cases hk : k ∈ readsOf st s
  · rw [if_pos (decide_eq_true hk), if_pos hk]
  · rw [if_neg (by simpa using hk), if_neg hk]
theorem cardU_drop {u : Int → Option StV} {b : Int} {s : StV} (hs : u b = some s) (hb : b ∈ keysL) : cardU u = cardU (updS u b none) + 1 := by
  unfold cardU
  have h := count_one keysL nodup_keysL (fun j => (u j).isSome) (fun j => (updS u b none j).isSome) b hb (fun j hj => by rw [updS_other _ _ hj]) (by rw [updS_same]; rfl)
  rw [h]
  simp [hs]
theorem cntU_zero {u : Int → Option StV} {st : List R} {k : Int} (h : cntU u st k = 0) {j : Int} {s : StV} (hs : u j = some s) (hj : j ∈ keysL) : k ∉ readsOf st s := by
  intro hk
  unfold cntU at h
  have h1 := List.length_eq_zero_iff.1 h
  have h2 : j ∈ keysL.filter (readsB u st k) := List.mem_filter.2 ⟨hj, by unfold readsB; rw [hs]; simpa using hk⟩
  rw [h1] at h2
  cases h2
/-- Which steps there were, which are left, how many read each block, which are ordered, and which wait to be looked at. -/
structure TI (u0 : Int → Option StV) (Z : Int → Prop) (st : List R) (u : Int → Option StV) (rd : Int → Int) (order : List StV) (T : List Int) : Prop where
  dom : ∀ j s, u j = some s → u0 j = some s
  kdom : ∀ j s, u0 j = some s → (0 ≤ j ∧ j < 20000) ∧ s.blk = j ∧ ∀ x, Need s.parts x → x < 1048576
  part : ∀ j s, u0 j = some s → u j = some s ∨ s ∈ order
  ord0 : ∀ s ∈ order, u0 s.blk = some s ∧ u s.blk = none
  nod : (order.map StV.blk).Nodup
  rdc : ∀ k, 0 ≤ k → k < 20000 → rd k = cntU u st k
  tz : ∀ c ∈ T, (0 ≤ c ∧ c < 20000) ∧ rd c = 0
  pw : order.Pairwise fun s t => s.blk ∉ readsOf st t
  fut : ∀ s ∈ order, ∀ j t, u j = some t → s.blk ∉ readsOf st t
  prog : ∀ c, (u c).isSome = true → rd c = 0 → c ∈ T ∨ Z c
section
variable {u0 : Int → Option StV} {Z : Int → Prop} {st : List R} {u : Int → Option StV} {rd : Int → Int} {order : List StV} {T : List Int} {b : Int}
theorem TI.pop_none (h : TI u0 Z st u rd order (T ++ [b])) (hb : u b = none) : TI u0 Z st u rd order T :=
  ⟨h.dom, h.kdom, h.part, h.ord0, h.nod, h.rdc, fun c hc => h.tz c (List.mem_append_left _ hc), h.pw, h.fut, fun c hc h0 => by
    rcases h.prog c hc h0 with h1 | h1
    · rcases List.mem_append.1 h1 with h1 | h1
      · exact .inl h1
      · simp at h1; subst h1; rw [hb] at hc; cases hc
    · exact .inr h1⟩
/-- Behind so many of the blocks that a step read. -/
def rdP (rd : Int → Int) (K : List Int) (i : Nat) : Int → Int := fun k => if k ∈ K.take i then rd k - 1 else rd k
def tP (rd : Int → Int) (T K : List Int) (i : Nat) : List Int := T ++ (K.take i).filter fun k => decide (rd k = 1)
theorem rdP_next {rd : Int → Int} {K : List Int} (hn : K.Nodup) {i : Nat} {k : Int} (hk : K[i]? = some k) : rdP rd K i k = rd k ∧ updI (rdP rd K i) k (rd k - 1) = rdP rd K (i + 1) := by
  have h1 : k ∉ K.take i := fun hin => by
    have e := Sc.take_snoc K i k hk
    have h2 : (K.take (i + 1)).Nodup := hn.sublist (List.take_sublist _ _)
    rw [e, List.nodup_append] at h2
    exact h2.2.2 k hin k (by simp) rfl
  refine ⟨by unfold rdP; rw [if_neg h1], ?_⟩
  funext j
  unfold updI rdP
  rw [Sc.take_snoc K i k hk]
  by_cases hj : j = k
  · subst hj; simp
  · simp [hj]
theorem tP_next {rd : Int → Int} {T K : List Int} {i : Nat} {k : Int} (hk : K[i]? = some k) : tP rd T K (i + 1) = tP rd T K i ++ (if rd k = 1 then [k] else []) := by
  unfold tP
  rw [Sc.take_snoc K i k hk, List.filter_append, List.append_assoc]
  congr 2
  by_cases h : rd k = 1 <;> simp [h]
theorem tP_len (rd : Int → Int) (T K : List Int) (i : Nat) : (tP rd T K i).length ≤ T.length + K.length := by
  unfold tP
  rw [List.length_append]
  have := List.length_filter_le (fun k => decide (rd k = 1)) (K.take i)
  have := List.length_take_le' i K
  omega
theorem readsOf_len {st : List R} {s : StV} (h : ∀ x, Need s.parts x → x < 1048576) : (readsOf st s).length ≤ 16384 := by
  have := rise_len (readsOf st s) 0 16384 (reads_rise _ _ _) (fun c hc => by have := reads_bound _ _ _ h hc; omega)
  omega
theorem readsOf_bound {st : List R} {s : StV} (h : ∀ x, Need s.parts x → x < 1048576) {k : Int} (hk : k ∈ readsOf st s) : 0 ≤ k ∧ k < 16384 := by have := reads_bound _ _ _ h hk; omega
theorem own_not_read {st : List R} {s : StV} : s.blk ∉ readsOf st s := fun h => ((mem_reads _ _ _ _).1 h).1 rfl
theorem TI.pop_some (h : TI u0 Z st u rd order (T ++ [b])) {s : StV} (hs : u b = some s) : TI u0 Z st (updS u b none) (rdP rd (readsOf st s) (readsOf st s).length) (order ++ [s]) (tP rd T (readsOf st s) (readsOf st s).length) := by
  have hu0 := h.dom b s hs
  obtain ⟨hb, hblk, hnb⟩ := h.kdom b s hu0
  have hbk : b ∈ keysL := (mem_keysL b).2 hb
  have hz := (h.tz b (by simp)).2
  have hc0 : cntU u st b = 0 := by have := h.rdc b hb.1 hb.2; omega
  have hcz : ∀ j t, u j = some t → b ∉ readsOf st t := fun j t ht => cntU_zero hc0 ht ((mem_keysL j).2 (h.kdom j t (h.dom j t ht)).1)
  have hrd : ∀ k, rdP rd (readsOf st s) (readsOf st s).length k = if k ∈ readsOf st s then rd k - 1 else rd k := fun k => by unfold rdP; rw [List.take_length]
  have hub : ∀ j t, updS u b none j = some t → j ≠ b ∧ u j = some t := fun j t ht => by
    by_cases hj : j = b
    · subst hj; rw [updS_same] at ht; cases ht
    · exact ⟨hj, by rwa [updS_other _ _ hj] at ht⟩
  refine ⟨fun j t ht => h.dom j t (hub j t ht).2, h.kdom, fun j t ht => ?_, fun t ht => ?_, ?_, fun k k0 k1 => ?_, fun c hc => ?_, ?_, fun t ht j t' ht' => ?_, fun c hc h0 => ?_⟩
  · rcases h.part j t ht with h1 | h1
    · by_cases hj : j = b
      · subst hj
        rw [hs] at h1
        injection h1 with h1
        subst h1
        exact .inr (by simp)
      · exact .inl (by rwa [updS_other _ _ hj])
    · exact .inr (by simp [h1])
  · rcases List.mem_append.1 ht with ht | ht
    · obtain ⟨h1, h2⟩ := h.ord0 t ht
      refine ⟨h1, ?_⟩
      by_cases hj : t.blk = b
      · rw [hj, updS_same]
      · rw [updS_other _ _ hj]; exact h2
    · simp at ht
      subst ht
      rw [hblk]
      exact ⟨hu0, updS_same _ _ _⟩
  · rw [List.map_append, List.nodup_append]
    refine ⟨h.nod, by simp, fun x hx y hy => ?_⟩
    simp at hy
    subst hy
    obtain ⟨t, ht, rfl⟩ := List.mem_map.1 hx
    intro e
    have h2 := (h.ord0 t ht).2
    rw [e, hblk, hs] at h2
    cases h2
  · have h1 := cntU_drop hs hbk st k
    have h2 := h.rdc k k0 k1
    rw [hrd]
    by_cases hk : k ∈ readsOf st s
    · rw [if_pos hk] at h1 ⊢; omega
    · rw [if_neg hk] at h1 ⊢; omega
  · unfold tP at hc
    rw [List.take_length] at hc
    rcases List.mem_append.1 hc with hc | hc
    · obtain ⟨h1, h2⟩ := h.tz c (List.mem_append_left _ hc)
      refine ⟨h1, ?_⟩
      rw [hrd, if_neg]
      · exact h2
      · have h3 : cntU u st c = 0 := by have := h.rdc c h1.1 h1.2; omega
        exact cntU_zero h3 hs hbk
    · obtain ⟨h1, h2⟩ := List.mem_filter.1 hc
      have h3 := readsOf_bound hnb h1
      have h4 : rd c = 1 := by simpa using h2
      refine ⟨by omega, ?_⟩
      rw [hrd, if_pos h1]; omega
  · rw [List.pairwise_append]
    refine ⟨h.pw, by simp, fun t ht t' ht' => ?_⟩
    simp at ht'
    subst ht'
    exact h.fut t ht b t' hs
  · obtain ⟨_, h2⟩ := hub j t' ht'
    rcases List.mem_append.1 ht with ht | ht
    · exact h.fut t ht j t' h2
    · simp at ht
      subst ht
      rw [hblk]
      exact hcz j t' h2
  · obtain ⟨t, ht⟩ := Option.isSome_iff_exists.1 hc
    obtain ⟨hne, hut⟩ := hub c t ht
    have hcb := (h.kdom c t (h.dom c t hut)).1
    rw [hrd] at h0
    by_cases hk : c ∈ readsOf st s
    · rw [if_pos hk] at h0
      left
      unfold tP
      rw [List.take_length]
      exact List.mem_append_right _ (List.mem_filter.2 ⟨hk, by simp; omega⟩)
    · rw [if_neg hk] at h0
      rcases h.prog c (by rw [hut]; rfl) h0 with h1 | h1
      · rcases List.mem_append.1 h1 with h1 | h1
        · exact .inl (List.mem_append_left _ h1)
        · simp at h1; exact absurd h1 hne
      · exact .inr h1
theorem TI.order_len (h : TI u0 Z st u rd order T) : order.length ≤ 20000 := by
  have := below_len 20000 (order.map StV.blk) h.nod (fun x hx => by
    obtain ⟨t, ht, rfl⟩ := List.mem_map.1 hx
    exact (h.kdom _ _ (h.ord0 t ht).1).1)
  simpa using this
end
end Go.Proofs.Yteceephenfmdoaa

/-
  take: orders a step, and those that wait for nobody but it.
-/
namespace Go.Proofs.Yteceephenfmdoaa
open Go.RowKit
theorem info70 : (Try.prog.info? 70).map (fun i => (i.zero, i.size, i.bytes)) = some (some (.agg #[.int .i64 0, .slice none 0 0]), 2, 32) := by kernel_rfl
def TakeR (w : World) (B0 g sb rb : Nat) (u0 : Int → Option StV) (Z : Int → Prop) (u : Int → Option StV) (b : Int) (SA : Option Addr) (sc : Nat) (stash : List R) (e : Ending) (w' : World) : Prop :=
  e = .returned (.tuple #[]) ∧ ∃ u' rd' OA' oc' order', Wk w' B0 g sb rb u' rd' SA sc stash OA' oc' order' ∧ TI u0 Z stash u' rd' order' [] ∧ Below B0 w w' ∧ (∀ j, u j = none → u' j = none) ∧ u' b = none
set_option maxRecDepth 100000 in
set_option maxHeartbeats 4000000 in
theorem take_any (w : World) (B0 g sb rb : Nat) (u0 : Int → Option StV) (Z : Int → Prop) (u : Int → Option StV) (rd : Int → Int) (SA : Option Addr) (sc : Nat) (stash : List R) (OA : Option Addr) (oc : Nat) (order : List StV) (b : Int)
    (hW : Wk w B0 g sb rb u rd SA sc stash OA oc order) (hT : TI u0 Z stash u rd order [b]) (hIs : IR stash) (hsl : stash.length ≤ 100000) :
    Calls Try.prog 44 #[.pointer (some ⟨g, 0, none⟩), .int .i64 b] w fun e w' => TakeR w B0 g sb rb u0 Z u b SA sc stash e w' := by
  obtain ⟨i0, hi, hz0, hz1, hz2⟩ := info_parts info3
  obtain ⟨k0, ki, kz0, kz1, kz2⟩ := info_parts info70
  have hb1 : Below w.heap.size w (w.alloc (.cells #[.int .i64 b] 3)) := (Below.refl _ _).alloc (Nat.le_refl _) _
  have HA : Hid (Wk (w.alloc (.cells #[.int .i64 b] 3)) B0 g sb rb u rd SA sc stash OA oc order ∧ OwnI (w.alloc (.cells #[.int .i64 b] 3)) B0 (some ⟨w.heap.size, 0, none⟩) 1 1 [b] ∧ TI u0 Z stash u rd order [b] ∧ Below B0 w (w.alloc (.cells #[.int .i64 b] 3)) ∧ (∀ j, u j = none → u j = none) ∧ (b ∈ [b] ∨ u b = none)) := Lib.hid ⟨hW.up hb1, OwnI.one w b B0 hW.base _ rfl, hT, hb1.mono hW.base, fun _ h => h, .inl (by simp)⟩
  have HC0 : Hid (1 + 20000 * cardU u ≤ 400000001) := Lib.hid (by have := cardU_le u; omega)
  have HIS := Lib.hid hIs
  have HU := Lib.hid (rfl : u = u)
  clear hW hT hIs hb1
  go_enter Try.func44, Try.ntmps44
  go_wp2_with fail
  generalize w.alloc (.cells #[.int .i64 b] 3) = W1 at *
  generalize w.heap.size = wz at *
  go_loopg [4] (1 + 20000 * cardU u) (fun gk v wr => ∃ (u' : Int → Option StV) (rd' : Int → Int) (OA' : Option Addr) (oc' : Nat) (order' : List StV) (A : Option Addr) (n c : Nat) (T : List Int), v = .slice A n c ∧ n + 20000 * cardU u' ≤ gk ∧ gk ≤ 400000001 ∧ Hid (Wk wr B0 g sb rb u' rd' SA sc stash OA' oc' order' ∧ OwnI wr B0 A n c T ∧ TI u0 Z stash u' rd' order' T ∧ Below B0 w wr ∧ (∀ j, u j = none → u' j = none) ∧ (b ∈ T ∨ u' b = none)))
  case atStart => exact ⟨u, rd, OA, oc, order, _, 1, 1, [b], rfl, Nat.le_refl _, HC0.out, HA⟩
  case round =>
    clear HA HC0
    obtain ⟨u', rd', OA', oc', order', A, n, c, T, rfl, hcard, hgk, HI⟩ := hrel
    by_cases hn : n = 0
    · subst hn
      have hTn : T = [] := List.length_eq_zero_iff.1 HI.out.2.1.1
      subst hTn
      go_wp2_with fail
      refine ⟨rfl, .tuple #[], ?_, rfl, _, _, _, _, _, HI.out.1, HI.out.2.2.1, HI.out.2.2.2.1, HI.out.2.2.2.2.1, HI.out.2.2.2.2.2.resolve_left (by simp)⟩
      first | rfl | (simp [Results, Try.f44]; done) | kernel_rfl
    · obtain ⟨m, rfl⟩ : ∃ m, n = m + 1 := ⟨n - 1, by omega⟩
      have hTl := HI.out.2.1.1
      rcases Sc.snoc_cases T with rfl | ⟨T', b', rfl⟩
      · simp at hTl
      have hTm : T'.length = m := by simpa using hTl
      obtain ⟨tb, toff, rfl, htb, ht0⟩ := HI.out.2.1.rd m b' (by rw [← hTm]; simp)
      have hcap := HI.out.2.1.cap
      have hbb := (HI.out.2.2.1.tz b' (by simp)).1
      have g1 : (0 : Int) < ((m + 1 : Nat) : Int) := by omega
      have g2 : IntKind.i64.wrap (((m + 1 : Nat) : Int) - 1) = (m : Int) := by rw [IntWalk.i64_in _ (by omega)]; omega
      have g3 : m < m + 1 := by omega
      have g4 : (m : Int) ≤ (c : Int) := by omega
      have g5 : ¬ c = 0 := by omega
      have HTM := Lib.hid hTm
      have HSH : Hid (OwnI wr B0 (some ⟨tb, toff, none⟩) m c T') := Lib.hid (by
        have h := HI.out.2.1.shrink m (by omega)
        rwa [List.take_append_of_le_length (by omega), List.take_of_length_le (by omega)] at h)
      have hlook := HI.out.1.look (show I64 b' by unfold I64; omega)
      have hc0 := HI.out.1.cells.1
      have hlt0 := HI.out.1.lt
      have hne0 : Hid (¬ inA OA' wr.heap.size) := Lib.hid (fun e => by have := (HI.out.1.row.ty e).2.1; omega)
      clear hTl hTm hn
      cases hub : u' b' with
      | none =>
        rw [hub] at hlook
        simp only [Option.map_none, Option.getD_none, Option.isSome_none] at hlook
        have HTI := Lib.hid (HI.out.2.2.1.pop_none hub)
        have HBB : Hid (b ∈ T' ∨ u' b = none) := Lib.hid (by
          rcases HI.out.2.2.2.2.2 with h | h
          · rcases List.mem_append.1 h with h | h
            · exact .inl h
            · simp at h; subst h; exact .inr hub
          · exact .inr h)
        have hb2 : Below wr.heap.size wr (wr.alloc (.cells #[.int .i64 0, .slice none 0 0] 70)) := (Below.refl _ _).alloc (Nat.le_refl _) _
        have HB2 := Lib.hid hb2
        clear hub hb2 hne0
        go_wp2_with fail
        go_roundg (m + 20000 * cardU u')
        case measure => omega
        case rel => exact ⟨u', rd', OA', oc', order', _, m, c, T', rfl, Nat.le_refl _, by omega, Lib.hid ⟨HI.out.1.up HB2.out, HSH.out.alloc _, HTI.out, HI.out.2.2.2.1.trans (HB2.out.mono HI.out.1.base), HI.out.2.2.2.2.1, HBB.out⟩⟩
      | some s =>
        rw [hub] at hlook
        simp only [Option.map_some, Option.getD_some, Option.isSome_some] at hlook
        obtain ⟨hblk, hsg⟩ := HI.out.1.us b' s hub
        have HTI := Lib.hid (HI.out.2.2.1.pop_some hub)
        have HSG := Lib.hid hsg
        have HKD := Lib.hid (HI.out.2.2.1.kdom b' s (HI.out.2.2.1.dom b' s hub))
        have hol := HI.out.2.2.1.order_len
        have HRC := Lib.hid HI.out.2.2.1.rdc
        have HCD := Lib.hid (cardU_drop hub ((mem_keysL b').2 hbb))
        have HBB : Hid (b ∈ T' ∨ updS u' b' none b = none) := Lib.hid (by
          by_cases hbe : b = b'
          · subst hbe; exact .inr (updS_same _ _ _)
          · rcases HI.out.2.2.2.2.2 with h | h
            · rcases List.mem_append.1 h with h | h
              · exact .inl h
              · simp at h; exact absurd h hbe
            · exact .inr (by rw [updS_other _ _ hbe]; exact h))
        have HMO : Hid (∀ j, u j = none → updS u' b' none j = none) := Lib.hid (fun j hj => by
          by_cases hj2 : j = b'
          · subst hj2; exact updS_same _ _ _
          · rw [updS_other _ _ hj2]; exact HI.out.2.2.2.2.1 j hj)
        have HUB := Lib.hid hub
        clear hub hsg
        obtain ⟨blk, PA, pc, parts⟩ := s
        simp only at hblk
        subst hblk
        unfold stVal at hlook
        simp only at hlook
        go_upto_region 6 with (fail)
        have hb2 : Below wr.heap.size wr (wr.alloc (.cells #[.int .i64 blk, .slice PA parts.length pc] 70)) := (Below.refl _ _).alloc (Nat.le_refl _) _
        have HW2 := Lib.hid (HI.out.1.up hb2)
        have HT2 := Lib.hid (HSH.out.alloc (.cells #[.int .i64 blk, .slice PA parts.length pc] 70))
        have HX2 : Hid ((wr.alloc (.cells #[.int .i64 blk, .slice PA parts.length pc] 70)).heap[wr.heap.size]? = some (.cells #[.int .i64 blk, .slice PA parts.length pc] 70 (0, 0))) := Lib.hid (heap_alloc_new wr _)
        have HBL2 := Lib.hid (HI.out.2.2.2.1.trans (hb2.mono HI.out.1.base))
        have HSG2 : Hid (StG (wr.alloc (.cells #[.int .i64 blk, .slice PA parts.length pc] 70)) ⟨blk, PA, pc, parts⟩) := Lib.hid (HSG.out.same hb2.size (fun b cs p hb => hb2.block b (Array.getElem?_eq_some_iff.1 hb).1))
        clear hb2 HI HSH hlook hc0 ht0 HSG
        generalize hvb : wr.heap.size = vb at *
        generalize wr.alloc (.cells #[.int .i64 blk, .slice PA parts.length pc] 70) = W2 at *
        clear hvb htb hlt0
        go_cut [5] (fun v wx => v = .int .i64 blk ∧ ∃ (OA2 : Option Addr) (oc2 : Nat), Hid (Wk wx B0 g sb rb u' rd' SA sc stash OA2 oc2 (order' ++ [⟨blk, PA, pc, parts⟩]) ∧ OwnI wx B0 (some ⟨tb, toff, none⟩) m c T' ∧ wx.heap[vb]? = some (.cells #[.int .i64 blk, .slice PA parts.length pc] 70 (0, 0)) ∧ Below B0 w wx ∧ ¬ inA OA2 vb))
        case first =>
          have c3 := HW2.out.cells.2.2.2
          have z3 : W2.frozen? ⟨g, 3, none⟩ = false := frozen_of_row _ _ 3 _ _ HW2.out.box
          have v0 : W2.cell? ⟨vb, 0, none⟩ = some (.int .i64 blk) := cell_of_row _ _ 0 _ 70 (0, 0) HX2.out
          have v1 : W2.cell? ⟨vb, 1, none⟩ = some (.slice PA parts.length pc) := cell_of_row _ _ 1 _ 70 (0, 0) HX2.out
          have hgl := HW2.out.lt
          have HNG : Hid (some g ≠ (Value.slice OA' order'.length oc').ownBlock) := Lib.hid (fun e => by
            obtain ⟨_, _, cs, hc⟩ := HW2.out.row.ty (own_in.1 e.symm)
            have h := HW2.out.box
            rw [hc] at h
            injection h with h
            injection h with _ h
            cases h)
          have HRW := Lib.hid HW2.out.row
          have hB0 := HW2.out.base
          go_wp2_with fail
          go_region_law (refine step_append_lies _ (by rfl) (.tmp 41) (.tmp 43) 43 (by rfl) B0 70 k0 _ 2 32 Try.underlying43 ki kz0 kz1 kz2 rfl (by omega) (.slice OA' order'.length oc') order'.length (stCells order') (by rfl) (HRW.out.2.alloc _) ⟨W2.heap.size, 0, none⟩ 1 1 [.int .i64 blk, .slice PA parts.length pc] (by rfl) (by rfl) (World.news_of_block (heap_alloc_new _ _)) (by simp [Value.oneCell']) (by omega) (by unfold maxLen; omega) (by omega) (by simp; omega) (W2.heap.size + 1) (by simp) ?_; intro g5 k5 w5 hown5 hgrow5 hat5 hlt5; have c35 := (hgrow5.cell_far ⟨g, 3, none⟩ (by simp; omega) HNG.out).trans ((World.cell?_alloc_lt _ _ _ hgl).trans c3); have z35 := (hgrow5.frozen_far ⟨g, 3, none⟩ (by simp; omega) HNG.out).trans (((Below.refl W2.heap.size W2).alloc (Nat.le_refl _) _).frozen (p := ⟨g, 3, none⟩) hgl |>.trans z3))
          all_goals
            obtain ⟨x1, x2, x3⟩ := HW2.out.push (s := ⟨blk, PA, pc, parts⟩) (belowDrewN ((Below.refl W2.heap.size W2).alloc (Nat.le_refl _) _) 1) HSG2.out (by rw [stCells_one]; exact hown5) hgrow5 hat5 (by omega)
            have X4 : Hid (¬ inA (some ⟨g5, 0, none⟩) vb) := Lib.hid (fun e => by
              have e2 : g5 = vb := inA_some.1 e
              rcases hat5 with h | h
              · exact hne0.out (e2 ▸ own_in.1 h)
              · have := (Array.getElem?_eq_some_iff.1 HX2.out).1; omega)
            have X1 := Lib.hid x1
            have X2 := Lib.hid x2
            have X3 := Lib.hid x3
            clear x1 x2 x3 hown5 hgrow5 hat5 hlt5 c35 z35 v0 v1 c3 z3
            generalize w5.setCell ⟨g, 3, none⟩ (.slice (some ⟨g5, 0, none⟩) (order'.length + 1) k5) = w6 at *
            go_wp2_with fail
            go_meet
            exact ⟨rfl, _, _, Lib.hid ⟨X1.out, HW2.out.rowI X3.out HT2.out, HW2.out.boxS X3.out HX2.out (by decide) hne0.out, HBL2.out.trans X2.out, X4.out⟩⟩
        case rest =>
          obtain ⟨rfl, OA2, oc2, HC⟩ := hcut
          clear HW2 HT2 HX2 HBL2 HSG2 hne0
          obtain ⟨w6, hdel, hw6, hb6, hbs6⟩ := HC.out.1.drop (show I64 blk by unfold I64; omega) 0
          have hc0 := HC.out.1.cells.1
          have HW6 := Lib.hid hw6
          have HT6 := Lib.hid (HC.out.1.rowI hbs6 HC.out.2.1)
          have HX6 := Lib.hid (HC.out.1.boxS hbs6 HC.out.2.2.1 (by decide) HC.out.2.2.2.2)
          have HB6 := Lib.hid (HC.out.2.2.2.1.trans hb6)
          have HSG6 := Lib.hid (hw6.os ⟨blk, PA, pc, parts⟩ (by simp))
          have v0 : w6.cell? ⟨vb, 0, none⟩ = some (.int .i64 blk) := cell_of_row _ _ 0 _ 70 (0, 0) HX6.out
          have v1 : w6.cell? ⟨vb, 1, none⟩ = some (.slice PA parts.length pc) := cell_of_row _ _ 1 _ 70 (0, 0) HX6.out
          clear hw6 hbs6 hb6 HC
          go_wp2_with fail
          refine (reads_any g blk PA parts.length pc parts SA stash.length sc stash w6 rfl HSG6.out.ok.rd HSG6.out.may.1 (by have := HSG6.out.len; simp only at this; omega) HSG6.out.ok.b HW6.out.cells.2.2.1 rfl HW6.out.st.rd HIS.out hsl HKD.out.2.2).mono ?_
          rintro e w7 ⟨⟨A3, n3, c3, rfl, ho3⟩, hb7⟩
          have ho3' : OwnI w7 w6.heap.size A3 n3 c3 (readsOf stash ⟨blk, PA, pc, parts⟩) := ho3
          have hn3 : n3 ≤ 16384 := by have := readsOf_len (st := stash) (s := ⟨blk, PA, pc, parts⟩) HKD.out.2.2; have := ho3'.1; omega
          have HW7 := Lib.hid (HW6.out.up hb7)
          have HT7 := Lib.hid (HT6.out.below hb7 (Nat.le_refl _))
          have HB7 := Lib.hid (HB6.out.trans (hb7.mono HW6.out.base))
          have HK7 := Lib.hid ho3'
          have HA7 : Hid (∀ kb, inA A3 kb → (Value.slice (some ⟨tb, toff, none⟩) m c).ownBlock ≠ some kb) := Lib.hid (fun kb hk e => by
            have h1 := (ho3'.ty hk).1
            have h2 := HT6.out.2.lt kb e
            omega)
          have HRN : Hid (∀ (i : Nat) k, (readsOf stash ⟨blk, PA, pc, parts⟩)[i]? = some k → (0 ≤ k ∧ k < 20000) ∧ rd' k = cntU u' stash k ∧ rdP rd' (readsOf stash ⟨blk, PA, pc, parts⟩) i k = rd' k ∧ updI (rdP rd' (readsOf stash ⟨blk, PA, pc, parts⟩) i) k (rd' k - 1) = rdP rd' (readsOf stash ⟨blk, PA, pc, parts⟩) (i + 1) ∧ rdP rd' (readsOf stash ⟨blk, PA, pc, parts⟩) (i + 1) k = rd' k - 1 ∧ tP rd' T' (readsOf stash ⟨blk, PA, pc, parts⟩) (i + 1) = tP rd' T' (readsOf stash ⟨blk, PA, pc, parts⟩) i ++ (if rd' k = 1 then [k] else [])) := Lib.hid (fun i k hk => by
            have h1 := readsOf_bound HKD.out.2.2 (List.mem_of_getElem? hk)
            have hnd : (readsOf stash ⟨blk, PA, pc, parts⟩).Nodup := reads_nodup _ _ _
            have h2 := rdP_next (rd := rd') hnd hk
            refine ⟨by omega, HRC.out k (by omega) (by omega), h2.1, h2.2, ?_, tP_next hk⟩
            rw [← h2.2]
            unfold updI
            simp)
          have HTL : Hid (∀ i, (tP rd' T' (readsOf stash ⟨blk, PA, pc, parts⟩) i).length ≤ m + 16384) := Lib.hid (fun i => by
            have h1 := tP_len rd' T' (readsOf stash ⟨blk, PA, pc, parts⟩) i
            have h2 := HTM.out
            have h3 := readsOf_len (st := stash) (s := ⟨blk, PA, pc, parts⟩) HKD.out.2.2
            omega)
          have HK0 : Hid (rdP rd' (readsOf stash ⟨blk, PA, pc, parts⟩) 0 = rd' ∧ tP rd' T' (readsOf stash ⟨blk, PA, pc, parts⟩) 0 = T') := Lib.hid ⟨by funext k; simp [rdP], by simp [tP]⟩
          clear ho3 ho3' hb7 HW6 HT6 HB6 HX6 HSG6 v0 v1 hdel hc0 HRC
          generalize readsOf stash ⟨blk, PA, pc, parts⟩ = K at *
          go_wp2_with fail
          go_loopw [4, 56] (fun v i wx => ∃ (j : Nat) (A : Option Addr) (n c : Nat), j ≤ n3 ∧ i = .int .i64 j ∧ v = .slice A n c ∧ n ≤ m + 16384 ∧ Hid (Wk wx B0 g sb rb (updS u' blk none) (rdP rd' K j) SA sc stash OA2 oc2 (order' ++ [⟨blk, PA, pc, parts⟩]) ∧ OwnI wx B0 A n c (tP rd' T' K j) ∧ OwnI wx w6.heap.size A3 n3 c3 K ∧ (∀ kb, inA A3 kb → (Value.slice A n c).ownBlock ≠ some kb) ∧ Below B0 w wx)) (fun _ i _ => n3 - (intOf i).toNat)
          case atStart => exact ⟨0, _, m, c, Nat.zero_le _, rfl, rfl, by omega, Lib.hid ⟨by rw [HK0.out.1]; exact HW7.out, by rw [HK0.out.2]; exact HT7.out, HK7.out, HA7.out, HB7.out⟩⟩
          case round =>
            clear HW7 HT7 HB7 HK7 HA7 HK0
            obtain ⟨j, A, n, c, hj, rfl, rfl, hnm, HJ⟩ := hrel
            by_cases hlj : j < n3
            · obtain ⟨k, hk⟩ := get_some K j (by have := HJ.out.2.2.1.1; omega)
              obtain ⟨kb, koff, hA3, hkb, k0⟩ := HJ.out.2.2.1.rd j k hk
              obtain ⟨n1, n2, n4, n5, n6, n7⟩ := HRN.out j k hk
              have hcu := cntU_le u' stash k
              have hc1 := HJ.out.1.cells.2.1
              have hl1 := HJ.out.1.readers.look n1.1 n1.2
              obtain ⟨w8, hst, hw8, hb8, hbs8, _⟩ := HJ.out.1.count n1.1 n1.2 (rd' k - 1)
              have hl2 := hw8.readers.look n1.1 n1.2
              have hc2 := hw8.cells.2.1
              rw [n4] at hl1
              rw [n5] at hw8 hl2
              rw [n6] at hl2
              have q1 : IntKind.i64.wrap (rd' k - 1) = rd' k - 1 := IntWalk.i64_in _ (by omega)
              have HW8 := Lib.hid hw8
              have HT8 := Lib.hid (HJ.out.1.rowI hbs8 HJ.out.2.1)
              have HK8 := Lib.hid (HJ.out.1.rowI hbs8 HJ.out.2.2.1)
              have HB8 := Lib.hid (HJ.out.2.2.2.2.trans hb8)
              have HA8 := Lib.hid HJ.out.2.2.2.1
              have hTL := HTL.out (j + 1)
              rw [n7] at hTL
              have HN7 := Lib.hid n7
              subst hA3
              clear hk n2 n4 n5 n6 n7 hw8 hb8 hbs8 HJ hcu
              by_cases h1 : rd' k = 1
              · have e0 : rd' k - 1 = 0 := by omega
                have HT9 : Hid (tP rd' T' K (j + 1) = tP rd' T' K j ++ [k]) := Lib.hid (by rw [HN7.out, if_pos h1])
                rw [if_pos h1, List.length_append] at hTL
                have hTL2 : n + 1 ≤ m + 16384 := by have := HT8.out.1; simp at hTL; omega
                rw [e0] at hl2 hst q1
                clear HN7 h1 hTL
                go_wp2_with (at_builtin; refine wpList_append_block rfl (.tmp 74) (.tmp 76) 71 rfl B0 3 i0 _ 1 8 Try.underlying71 hi hz0 hz1 hz2 rfl (by decide) _ _ _ rfl (HT8.out.alloc _).2 ⟨w8.heap.size, 0, none⟩ 1 1 (icells [k]) rfl rfl (newi_one _ _ _ rfl) (icells_one _) (by unfold maxLen; omega) (by omega) (by have := HW8.out.base; simp; omega) ?_)
                intro v' w9 hown' hgrow hblk'
                obtain ⟨⟨A9, c9, hv, hown2⟩, hb3, _, _, _⟩ := appI_step HT8.out HB8.out HW8.out.base ((Below.refl _ _).alloc (Nat.le_refl _) _) (m := 1) (K := [k]) rfl hown' hgrow
                have X9 := Lib.hid (HW8.out.beside ((Below.refl w8.heap.size w8).alloc (Nat.le_refl _) _) hgrow (fun b hb => HT8.out.ty (own_in.1 hb)))
                have HBX : Hid (∀ kb', inA (some ⟨kb, koff, none⟩) kb' → w9.heap[kb']? = w8.heap[kb']? ∧ v'.ownBlock ≠ some kb') := Lib.hid (fun kb' hk => by
                  obtain ⟨_, cs, hc⟩ := HK8.out.ty hk
                  have h := box_step (HA8.out kb' hk) hc ((Below.refl w8.heap.size w8).alloc (Nat.le_refl _) _) hgrow hblk'
                  exact ⟨h.1.trans hc.symm, h.2⟩)
                rw [hv] at HBX ⊢
                have HO9 := Lib.hid hown2
                have HB9 := Lib.hid hb3
                clear hgrow hown' hv hown2 hb3 hblk' hl1 hl2 hst
                go_wp2_with fail
                go_roundw
                case measure => simp [intOf]; omega
                case rel => exact ⟨j + 1, A9, n + 1, c9, by omega, by go_num, rfl, hTL2, Lib.hid ⟨X9.out.1, by rw [HT9.out]; exact HO9.out, HK8.out.same (fun kb hk => (HBX.out kb hk).1), fun kb hk => (HBX.out kb hk).2, HB9.out⟩⟩
              · have e0 : (rd' k - 1 == 0) = false := by simp; omega
                have HT9 : Hid (tP rd' T' K (j + 1) = tP rd' T' K j) := Lib.hid (by rw [HN7.out, if_neg h1, List.append_nil])
                clear HN7 h1 hTL
                go_wp2_with fail
                go_roundw
                case measure => simp [intOf]; omega
                case rel => exact ⟨j + 1, A, n, c, by omega, by go_num, rfl, hnm, Lib.hid ⟨HW8.out, by rw [HT9.out]; exact HT8.out, HK8.out, HA8.out, HB8.out⟩⟩
            · obtain rfl : j = n3 := by omega
              clear hlj
              have HKL := Lib.hid HJ.out.2.2.1.1
              go_wp2_with fail
              go_roundg (n + 20000 * cardU (updS u' blk none))
              case measure => have := HCD.out; omega
              case rel => exact ⟨updS u' blk none, rdP rd' K K.length, OA2, oc2, order' ++ [⟨blk, PA, pc, parts⟩], A, n, c, tP rd' T' K K.length, rfl, Nat.le_refl _, by have := HCD.out; omega, Lib.hid ⟨by rw [HKL.out]; exact HJ.out.1, by rw [HKL.out]; exact HJ.out.2.1, HTI.out, HJ.out.2.2.2.2, HMO.out, by
                rcases HBB.out with h | h
                · exact .inl (by unfold tP; exact List.mem_append_left _ h)
                · exact .inr h⟩⟩
end Go.Proofs.Yteceephenfmdoaa

/-
  free: puts aside what others need of a block.
-/
namespace Go.Proofs.Yteceephenfmdoaa
open Go.RowKit
/-- What a step, another one than the block's, needs. -/
def needO (b : Int) (s : StV) : List R := if s.blk ≠ b then needL s.parts else []
def needK (u : Int → Option StV) (b : Int) (L : List Int) : List R := L.flatMap fun j => match u j with | some s => needO b s | none => []
theorem needK_snoc (u : Int → Option StV) (b : Int) (L : List Int) (j : Int) {s : StV} (h : u j = some s) : needK u b (L ++ [j]) = needK u b L ++ needO b s := by unfold needK; simp [h]
theorem needO_take (b : Int) (s : StV) (_hne : s.blk ≠ b) (i : Nat) {x : S} (hx : s.parts[i]? = some x) : needL (s.parts.take (i + 1)) = needL (s.parts.take i) ++ rngS x := by rw [Sc.take_snoc s.parts i x hx, needL_snoc]
theorem in_needK (u : Int → Option StV) (b : Int) (L : List Int) (hL : ∀ j, (u j).isSome = true ↔ j ∈ L) (hu : ∀ j s, u j = some s → s.blk = j) (x : Int) : In (needK u b L) x ↔ ∃ j s, u j = some s ∧ j ≠ b ∧ Need s.parts x := by
  constructor
  · rintro ⟨r, hr, h1⟩
    obtain ⟨j, hj, hr⟩ := List.mem_flatMap.1 hr
    cases huj : u j with
    | none => rw [huj] at hr; cases hr
    | some s =>
      rw [huj] at hr
      simp only [needO] at hr
      split at hr
      · rename_i hne
        exact ⟨j, s, huj, by rw [← hu j s huj]; exact hne, (in_needL _ _).1 ⟨r, hr, h1⟩⟩
      · cases hr
  · rintro ⟨j, s, huj, hne, hx⟩
    obtain ⟨r, hr, h1⟩ := (in_needL _ _).2 hx
    refine ⟨r, List.mem_flatMap.2 ⟨j, (hL j).1 (by rw [huj]; rfl), ?_⟩, h1⟩
    rw [huj]
    simp only [needO]
    rw [if_pos (by rw [hu j s huj]; exact hne)]
    exact hr
theorem needK_ir (u : Int → Option StV) (b : Int) (L : List Int) (h : ∀ j s, u j = some s → Sc.Ok s.parts) : IR (needK u b L) := by
  intro r hr
  obtain ⟨j, hj, hr⟩ := List.mem_flatMap.1 hr
  cases huj : u j with
  | none => rw [huj] at hr; cases hr
  | some s =>
    rw [huj] at hr
    simp only [needO] at hr
    split at hr
    · exact needL_ir (h j s huj) r hr
    · cases hr
/-- What the stash is behind a block that was freed. -/
def FreeP (u : Int → Option StV) (b : Int) (stash : List R) (x : Int) : Prop := 0 ≤ x ∧ (In stash x ∨ (x / 64 = b ∧ ∃ j s, u j = some s ∧ j ≠ b ∧ Need s.parts x))
def FreeR (w : World) (B0 g sb rb : Nat) (u : Int → Option StV) (rd : Int → Int) (b : Int) (stash : List R) (OA : Option Addr) (oc : Nat) (order : List StV) (e : Ending) (w' : World) : Prop :=
  e = .returned (.tuple #[]) ∧ ∃ SA' sc' stash', Wk w' B0 g sb rb u (updI rd b 0) SA' sc' stash' OA oc order ∧ Is stash' (FreeP u b stash) ∧ Below B0 w w'
theorem Own.one (w : World) (r : R) (base : Nat) (hb : base ≤ w.heap.size) (g : Nat) (hg : g = w.heap.size) : Own (w.alloc (.cells #[.int .i64 r.1, .int .i64 r.2] 67)) base (some ⟨g, 0, Option.none⟩) 1 1 [r] := by
  subst hg
  exact ⟨rfl, rfl, .inr ⟨w.heap.size, 1, #[.int .i64 r.1, .int .i64 r.2], rfl, hb, heap_alloc_new w _, Nat.le_refl _, by unfold maxLen; omega, rfl, rfl⟩⟩
theorem ownR_ne {w : World} {base : Nat} {A : Option Addr} {n c : Nat} {l : List R} (h : Own w base A n c l) {b : Nat} {cs : Array Value} {T : TypeId} {p : Nat × Nat} (hb : w.heap[b]? = some (.cells cs T p)) (hT : T ≠ 67 := by decide) : (Value.slice A n c).ownBlock ≠ some b := by
  rcases h.2.2 with ⟨hv, _⟩ | ⟨g, cap', cur, hv, _, hg, _⟩
  · rw [hv]; simp [Value.ownBlock]
  · rw [hv]
    simp only [Value.ownBlock, ne_eq, Option.some.injEq]
    rintro rfl
    rw [hg] at hb
    injection hb with hb
    injection hb with _ hb
    exact hT hb.symm
def needI (b : Int) (s : StV) (i : Nat) : List R := if s.blk ≠ b then needL (s.parts.take i) else []
theorem needI_all (b : Int) (s : StV) (i : Nat) (h : s.parts.length ≤ i) : needI b s i = needO b s := by unfold needI needO; rw [List.take_of_length_le h]
theorem needI_zero (b : Int) (s : StV) : needI b s 0 = [] := by unfold needI; simp [needL]
theorem needI_next (b : Int) (s : StV) (i : Nat) {x : S} (hx : s.parts[i]? = some x) : needI b s (i + 1) = needI b s i ++ (if x.src = 0 ∧ s.blk ≠ b then [(x.at_, x.at_ + x.len)] else []) := by
  unfold needI
  by_cases h : s.blk ≠ b
  · rw [if_pos h, if_pos h, needO_take b s h i hx]
    unfold rngS
    by_cases h0 : x.src = 0
    · rw [if_pos h0, if_pos ⟨h0, h⟩]
    · rw [if_neg h0, if_neg (fun h => h0 h.1)]
  · rw [if_neg h, if_neg h, if_neg (fun h' => h h'.2)]
    simp
set_option maxRecDepth 100000 in
set_option maxHeartbeats 4000000 in
theorem free_any (w : World) (B0 g sb rb : Nat) (u : Int → Option StV) (rd : Int → Int) (SA : Option Addr) (sc : Nat) (stash : List R) (OA : Option Addr) (oc : Nat) (order : List StV) (b : Int)
    (hW : Wk w B0 g sb rb u rd SA sc stash OA oc order) (hb : 0 ≤ b ∧ b < 20000) (hR : Right stash) (hIs : IR stash) (hsl : stash.length ≤ 100000) (hk : ∀ j, (u j).isSome = true → j < 3200) :
    Calls Try.prog 45 #[.pointer (some ⟨g, 0, none⟩), .int .i64 b] w fun e w' => FreeR w B0 g sb rb u rd b stash OA oc order e w' := by
  obtain ⟨i0, hi, hz0, hz1, hz2⟩ := info_parts info29
  have q1 : IntKind.i64.wrap (b * 64) = b * 64 := IntWalk.i64_in _ (by omega)
  have q2 : IntKind.i64.wrap (b + 1) = b + 1 := IntWalk.i64_in _ (by omega)
  have q3 : IntKind.i64.wrap ((b + 1) * 64) = (b + 1) * 64 := IntWalk.i64_in _ (by omega)
  have hb1 : Below w.heap.size w (w.alloc (.cells #[.int .i64 (b * 64), .int .i64 ((b + 1) * 64)] 67)) := (Below.refl _ _).alloc (Nat.le_refl _) _
  have HW1 := Lib.hid (hW.up hb1)
  have HO1 : Hid (Own (w.alloc (.cells #[.int .i64 (b * 64), .int .i64 ((b + 1) * 64)] 67)) w.heap.size (some ⟨w.heap.size, 0, Option.none⟩) 1 1 [(b * 64, (b + 1) * 64)]) := Lib.hid (Own.one w (b * 64, (b + 1) * 64) w.heap.size (Nat.le_refl _) _ rfl)
  have HB1 := Lib.hid (hb1.mono hW.base)
  have HIS := Lib.hid hIs; have HK := Lib.hid hk; have HR := Lib.hid hR
  have HUB : Hid (∀ j s, u j = some s → s.blk = j) := Lib.hid fun j s h => (hW.us j s h).1
  have HUO : Hid (∀ j s, u j = some s → Sc.Ok s.parts) := Lib.hid fun j s h => (hW.us j s h).2.may.1
  have hwb := hW.base
  clear hW hIs hk hb1 hR
  go_enter Try.func45, Try.ntmps45
  go_upto_region 2 with (fail)
  generalize w.alloc (.cells #[.int .i64 (b * 64), .int .i64 ((b + 1) * 64)] 67) = W1 at *
  generalize hws : w.heap.size = ws at *
  have HWS := Lib.hid hws
  clear hws
  obtain ⟨w2, hrun, ⟨c0, hr2⟩, hg2, hs2⟩ := HW1.out.steps.range map78
  have hc0 := HW1.out.cells.1
  have hb2 : Below W1.heap.size W1 w2 := ⟨hg2.os, hg2.tape, hg2.output, hg2.size, fun k hk => hg2.block k hk (by simp)⟩
  have HR2 := Lib.hid hr2
  have HB2' := Lib.hid hb2
  have HW2 := Lib.hid (HW1.out.up hb2)
  have HO2 := Lib.hid (HO1.out.up hb2)
  have HB2 := Lib.hid (HB1.out.trans (hb2.mono HW1.out.base))
  have hrb : W1.heap.size < w2.heap.size := by omega
  have HRNE : Hid (W1.heap.size ≠ rb) := Lib.hid (fun e => by
    obtain ⟨es, c, h⟩ := HW1.out.readers.heap
    have := (Array.getElem?_eq_some_iff.1 h).1
    omega)
  clear hr2 hg2 hb2 hs2
  go_wp2_with fail
  generalize hrk : W1.heap.size = rk at *
  have HRK := Lib.hid hrk
  have HBA : Hid (Below rk W1 w2) := Lib.hid ⟨HB2'.out.os, HB2'.out.tape, HB2'.out.output, HB2'.out.size, HB2'.out.block⟩
  clear hrk
  go_loopg [5] c0 (fun gk v wr => ∃ (L : List Int) (A : Option Addr) (n c : Nat), v = .slice A n c ∧ n ≤ 64 * L.length ∧ Hid (VR wr Try.prog 3 sb rk 20000 (fun j => (u j).map stVal) L gk ∧ Own wr (rk + 1) A n c (needK u b L) ∧ Below rk W1 wr) ∧ rk + 1 ≤ wr.heap.size)
  case atStart => exact ⟨[], _, 0, 0, rfl, Nat.zero_le _, Lib.hid ⟨HR2.out, Own.nil _ _, HBA.out⟩, hrb⟩
  case round =>
    clear HBA HR2 HB2' HW2 HO2 HB2 hrun hc0 hrb
    obtain ⟨L, A, n, c, rfl, hnL, HI, hsz⟩ := hrel
    have hLn : L.length ≤ 3200 := by
      obtain ⟨_, _, _, _, _, hkk, _, hnd, hLm⟩ := HI.out.1
      refine below_len 3200 L hnd (fun j hj => ?_)
      have h1 := hkk j (hLm j hj)
      have h2 := HK.out j (by have h3 := hLm j hj; simpa using h3)
      omega
    rcases HI.out.1.next map78 0 (by unfold maxLen; omega) with ⟨hrun2, hz, hnd, hall⟩ | ⟨x, v, w3, c', hrun2, hx0, hx1, hxL, hux, hr3, hlt, hg3, hs3, hen⟩
    · have HALL : Hid (∀ j, (u j).isSome = true ↔ j ∈ L) := Lib.hid fun j => by rw [← hall j]; cases u j <;> rfl
      clear hz hnd hall
      go_upto_region 11 with (fail)
      have hbw : Below W1.heap.size W1 wr := HRK.out ▸ HI.out.2.2
      have HW4 := Lib.hid (HW1.out.up hbw)
      have HO4 := Lib.hid (HO1.out.up hbw)
      have HN4 := Lib.hid HI.out.2.1
      have HB4 := Lib.hid (HB1.out.trans (hbw.mono HW1.out.base))
      have HND := Lib.hid (needK_ir u b L HUO.out)
      have HIN := Lib.hid (fun x => in_needK u b L HALL.out HUB.out x)
      have hnl := HN4.out.1
      have hnb : n ≤ 1000000 := by omega
      have hIR1 : IR [(b * 64, (b + 1) * 64)] := fun r hr => by simp at hr; subst hr; unfold I64; simp only; omega
      have HBo : Hid (Calls Try.prog 64 #[.slice A n c, .slice (some ⟨ws, 0, none⟩) 1 1] wr.drew fun e w' => (∃ A' n c, e = .returned (.slice A' n c) ∧ Own w' wr.heap.size A' n c (bothR (needK u b L) [(b * 64, (b + 1) * 64)])) ∧ Below wr.heap.size wr.drew w') := Lib.hid
        (Both_any A n c (some ⟨ws, 0, none⟩) 1 1 wr.drew (needK u b L) [(b * 64, (b + 1) * 64)] hnl HN4.out.rd HND.out rfl HO4.out.rd hIR1 hnb (by omega))
      have HEi : Hid (∀ (A6 : Option Addr) (n6 c6 : Nat) (w6 : World), Below wr.heap.size wr.drew w6 → Own w6 wr.heap.size A6 n6 c6 (bothR (needK u b L) [(b * 64, (b + 1) * 64)]) → Calls Try.prog 63 #[.slice SA stash.length sc, .slice A6 n6 c6] w6 fun e w' => (∃ A' n c, e = .returned (.slice A' n c) ∧ Own w' w6.heap.size A' n c (eitherR stash (bothR (needK u b L) [(b * 64, (b + 1) * 64)]))) ∧ Below w6.heap.size w6 w') := Lib.hid fun A6 n6 c6 w6 h6 o6 => by
        have hw6 := HW4.out.up (w' := w6) ⟨h6.os, h6.tape, h6.output, h6.size, h6.block⟩
        exact Either_any SA stash.length sc A6 n6 c6 w6 stash _ rfl hw6.st.rd HIS.out hw6.st.no o6.1 o6.rd (bothR_nn HND.out).ir (fun h => o6.none h) (by omega) (by have h1 := bothR_len (needK u b L) [(b * 64, (b + 1) * 64)]; have h2 := o6.1; have h3 := HN4.out.1; simp only [List.length_cons, List.length_nil] at h1; omega)
      have c2 := HW4.out.cells.2.2.1
      have z2 : wr.frozen? ⟨g, 2, none⟩ = false := frozen_of_row _ _ 2 _ _ HW4.out.box
      have hgl := HW4.out.lt
      clear HI hbw hIR1 hnl
      go_wp2_with fail
      go_region_law (first
        | (go_simp; go_at_call 64; refine HBo.out.mono ?_; rintro e w6 ⟨⟨A6, n6, c6, rfl, ho6⟩, hb6⟩; have HO6 := Lib.hid ho6; have HB6 := Lib.hid hb6; clear ho6 hb6; have c26 := (HB6.out.cell (p := ⟨g, 2, none⟩) hgl).trans c2; have z26 := (HB6.out.frozen (p := ⟨g, 2, none⟩) hgl).trans z2; have hgl6 := Nat.lt_of_lt_of_le hgl HB6.out.size)
        | (go_simp; go_at_call 63; refine (HEi.out _ _ _ _ HB6.out HO6.out).mono ?_; rintro e w7 ⟨⟨A7, n7, c7, rfl, ho7⟩, hb7⟩; have HO7 := Lib.hid ho7; have HB7 := Lib.hid hb7; clear ho7 hb7; have c27 := (HB7.out.cell (p := ⟨g, 2, none⟩) hgl6).trans c26; have z27 := (HB7.out.frozen (p := ⟨g, 2, none⟩) hgl6).trans z26))
      all_goals
        have hn7 := HO7.out.1
        subst hn7
        have hw7 := (HW4.out.up (w' := w6) ⟨HB6.out.os, HB6.out.tape, HB6.out.output, HB6.out.size, HB6.out.block⟩).up HB7.out
        obtain ⟨x1, x2, _⟩ := hw7.setStash (StR.of_own HO7.out)
        have X1 := Lib.hid x1
        have X2 : Hid (Below B0 w (w7.setCell ⟨g, 2, none⟩ (.slice A7 (eitherR stash (bothR (needK u b L) [(b * 64, (b + 1) * 64)])).length c7))) := Lib.hid (((HB4.out.trans (Below.mono ⟨HB6.out.os, HB6.out.tape, HB6.out.output, HB6.out.size, HB6.out.block⟩ HW4.out.base)).trans (HB7.out.mono (by have h8 := HB6.out.size; have h9 := HW4.out.base; have e9 : wr.drew.heap.size = wr.heap.size := rfl; omega))).trans x2)
        clear x1 x2 hw7 HO7 HB7 HO6 HB6 c26 z26 c27 z27 hgl6 HBo HEi
        generalize w7.setCell ⟨g, 2, none⟩ (.slice A7 (eitherR stash (bothR (needK u b L) [(b * 64, (b + 1) * 64)])).length c7) = w8 at *
        have hc1 := X1.out.cells.2.1
        obtain ⟨w9, hst, hw9, hb9, _, _⟩ := X1.out.count hb.1 hb.2 0
        have HW9 := Lib.hid hw9
        have HB9 := Lib.hid (X2.out.trans hb9)
        clear hw9 hb9 c2 z2
        go_wp2_with fail
        refine ⟨rfl, .tuple #[], ?_, rfl, _, _, _, HW9.out, (eitherR_is _ _).congr (fun x => ?_), HB9.out⟩
        · first | rfl | (simp [Results, Try.f45]; done) | kernel_rfl
        · unfold FreeP
          have h1 : In (bothR (needK u b L) [(b * 64, (b + 1) * 64)]) x ↔ 0 ≤ x ∧ In (needK u b L) x ∧ In [(b * 64, (b + 1) * 64)] x := (bothR_is (needK u b L) [(b * 64, (b + 1) * 64)]).2 x
          have h2 := HIN.out x
          have h3 : In [(b * 64, (b + 1) * 64)] x ↔ x / 64 = b := by rw [in_one]; simp only; omega
          rw [h1, h2, h3]
          constructor
          · rintro ⟨h4, h5 | h5⟩
            · exact ⟨h4, .inl h5⟩
            · exact ⟨h4, .inr ⟨h5.2.2, h5.2.1⟩⟩
          · rintro ⟨h4, h5 | h5⟩
            · exact ⟨h4, .inl h5⟩
            · exact ⟨h4, .inr ⟨h4, h5.2, h5.1⟩⟩
    · obtain ⟨s, hs, hsv⟩ := Option.map_eq_some_iff.1 hux
      subst hsv
      have HKN := Lib.hid (needK_snoc u b L x hs)
      have hsb : s.blk = x := HUB.out x s hs
      have hW3 := (HW1.out.up (HRK.out ▸ HI.out.2.2))
      have HSG := Lib.hid (hW3.us x s hs).2
      have hOwn3 : Own w3 (rk + 1) A n c (needK u b L) := ⟨HI.out.2.1.1, HI.out.2.1.2.kept hg3 (.inr fun e => by have := HI.out.2.1.2.lt rk e; omega)⟩
      have hBel3 : Below rk W1 w3 := HI.out.2.2.grown hg3 (by omega) (fun k hk => by injection hk with hk; omega)
      have hsz3 : rk + 1 ≤ w3.heap.size := by omega
      have HSG3 : Hid (StG w3 s) := Lib.hid (by
        have h := (HW1.out.us x s hs).2
        have hb := hBel3
        rw [← HRK.out] at hb
        exact h.same hb.size (fun b' cs p hb' => hb.block b' (Array.getElem?_eq_some_iff.1 hb').1))
      have HUX := Lib.hid hs
      obtain ⟨blk, PA, pc, parts⟩ := s
      simp only at hsb
      subst hsb
      unfold stVal at hrun2 hen
      simp only at hrun2 hen
      have hpl : parts.length ≤ 64 := HSG.out.len
      have HO3 := Lib.hid hOwn3
      have HB3 := Lib.hid hBel3
      have HR3 := Lib.hid hr3
      clear HI hs hux hg3 hs3 hr3 hOwn3 hBel3 hxL hW3 HSG
      go_upto_block 2 with (fail)
      have hb4 : Below w3.heap.size w3 (w3.alloc (.cells #[.int .i64 blk, .slice PA parts.length pc] 70)) := (Below.refl _ _).alloc (Nat.le_refl _) _
      have HX4 : Hid ((w3.alloc (.cells #[.int .i64 blk, .slice PA parts.length pc] 70)).heap[w3.heap.size]? = some (.cells #[.int .i64 blk, .slice PA parts.length pc] 70 (0, 0))) := Lib.hid (heap_alloc_new w3 _)
      have HO4 := Lib.hid (HO3.out.alloc (.cells #[.int .i64 blk, .slice PA parts.length pc] 70))
      have HB4 := Lib.hid (HB3.out.trans (hb4.mono (by omega)))
      have HR4 := Lib.hid (HR3.out.kept (World.grownBy_alloc w3 (.cells #[.int .i64 blk, .slice PA parts.length pc] 70) none) (by simp) (by simp))
      have HSG4 : Hid (StG (w3.alloc (.cells #[.int .i64 blk, .slice PA parts.length pc] 70)) ⟨blk, PA, pc, parts⟩) := Lib.hid (HSG3.out.same hb4.size (fun b' cs p hb' => hb4.block b' (Array.getElem?_eq_some_iff.1 hb').1))
      have hsz4 : rk + 1 ≤ (w3.alloc (.cells #[.int .i64 blk, .slice PA parts.length pc] 70)).heap.size := by simp; omega
      clear hb4 HO3 HB3 HR3 HSG3 hsz3 hrun2 hen
      generalize hvb : w3.heap.size = vb at *
      generalize w3.alloc (.cells #[.int .i64 blk, .slice PA parts.length pc] 70) = W4 at *
      clear hvb w3
      have HSB4 := Lib.hid HW1.out.steps.lt
      go_wp2_with fail
      go_loopw [5, 29] (fun v i wx => ∃ (k : Nat) (A : Option Addr) (n c : Nat), k ≤ parts.length ∧ i = .int .i64 k ∧ v = .slice A n c ∧ n ≤ 64 * L.length + k ∧ Hid (VR wx Try.prog 3 sb rk 20000 (fun j => (u j).map stVal) (L ++ [blk]) c' ∧ Own wx (rk + 1) A n c (needK u b L ++ needI b ⟨blk, PA, pc, parts⟩ k) ∧ Below rk W1 wx ∧ wx.heap[vb]? = some (.cells #[.int .i64 blk, .slice PA parts.length pc] 70 (0, 0)) ∧ StG wx ⟨blk, PA, pc, parts⟩) ∧ rk + 1 ≤ wx.heap.size) (fun _ i _ => parts.length - (intOf i).toNat)
      case atStart => exact ⟨0, A, n, c, Nat.zero_le _, rfl, rfl, by omega, Lib.hid ⟨HR4.out, by rw [needI_zero, List.append_nil]; exact HO4.out, HB4.out, HX4.out, HSG4.out⟩, hsz4⟩
      case round =>
        clear HR4 HO4 HB4 HX4 HSG4 hsz4 hnL
        obtain ⟨k, A, n, c, hkp, rfl, rfl, hnk, HJ, hszJ⟩ := hrel
        by_cases hlk : k < parts.length
        · obtain ⟨y, hy⟩ := get_some parts k hlk
          obtain ⟨pb, po, rfl, hpb, d0, d1, d2⟩ := HJ.out.2.2.2.2.ok.rd k y hy
          have hyok := HUO.out blk _ HUX.out y (List.mem_of_getElem? hy)
          have HNX := Lib.hid (needI_next b ⟨blk, some ⟨pb, po, none⟩, pc, parts⟩ k hy)
          unfold Sc.okS at hyok
          have r1 : IntKind.i64.wrap (y.at_ + y.len) = y.at_ + y.len := IntWalk.i64_in _ (by omega)
          go_upto_region 8 with (fail)
          have hb5 : Below wr.heap.size wr (wr.alloc (.cells #[.int .i64 y.src, .int .i64 y.at_, .int .i64 y.len] 48)) := (Below.refl _ _).alloc (Nat.le_refl _) _
          have HY5 : Hid ((wr.alloc (.cells #[.int .i64 y.src, .int .i64 y.at_, .int .i64 y.len] 48)).heap[wr.heap.size]? = some (.cells #[.int .i64 y.src, .int .i64 y.at_, .int .i64 y.len] 48 (0, 0))) := Lib.hid (heap_alloc_new wr _)
          have HR5 := Lib.hid (HJ.out.1.kept (World.grownBy_alloc wr (.cells #[.int .i64 y.src, .int .i64 y.at_, .int .i64 y.len] 48) none) (by simp) (by simp))
          have HO5 := Lib.hid (HJ.out.2.1.alloc (.cells #[.int .i64 y.src, .int .i64 y.at_, .int .i64 y.len] 48))
          have HB5 := Lib.hid (HJ.out.2.2.1.trans (hb5.mono (by omega)))
          have HX5 := Lib.hid ((hb5.block vb (Array.getElem?_eq_some_iff.1 HJ.out.2.2.2.1).1).trans HJ.out.2.2.2.1)
          have HS5 : Hid (StG (wr.alloc (.cells #[.int .i64 y.src, .int .i64 y.at_, .int .i64 y.len] 48)) ⟨blk, some ⟨pb, po, none⟩, pc, parts⟩) := Lib.hid (HJ.out.2.2.2.2.same hb5.size (fun b' cs p hb' => hb5.block b' (Array.getElem?_eq_some_iff.1 hb').1))
          have hsz5 : rk + 1 ≤ (wr.alloc (.cells #[.int .i64 y.src, .int .i64 y.at_, .int .i64 y.len] 48)).heap.size := by simp; omega
          clear hb5 HJ hszJ hy d0 d1 d2 hpb
          generalize hyb : wr.heap.size = yb at *
          generalize wr.alloc (.cells #[.int .i64 y.src, .int .i64 y.at_, .int .i64 y.len] 48) = W5 at *
          clear hyb wr
          have y0 : W5.cell? ⟨yb, 0, none⟩ = some (.int .i64 y.src) := cell_of_row _ _ 0 _ 48 (0, 0) HY5.out
          have y1 : W5.cell? ⟨yb, 1, none⟩ = some (.int .i64 y.at_) := cell_of_row _ _ 1 _ 48 (0, 0) HY5.out
          have y2 : W5.cell? ⟨yb, 2, none⟩ = some (.int .i64 y.len) := cell_of_row _ _ 2 _ 48 (0, 0) HY5.out
          have v0 : W5.cell? ⟨vb, 0, none⟩ = some (.int .i64 blk) := cell_of_row _ _ 0 _ 70 (0, 0) HX5.out
          by_cases hc : y.src = 0 ∧ blk ≠ b
          · obtain ⟨hc1, hc2⟩ := hc
            have f1 : (y.src == 0) = true := by simpa using hc1
            have f2 : (blk != b) = true := by simpa using hc2
            have f3 : (blk == b) = false := by simpa using hc2
            have HN6 : Hid (needI b ⟨blk, some ⟨pb, po, none⟩, pc, parts⟩ (k + 1) = needI b ⟨blk, some ⟨pb, po, none⟩, pc, parts⟩ k ++ [(y.at_, y.at_ + y.len)]) := Lib.hid (by rw [HNX.out, if_pos ⟨hc1, hc2⟩])
            clear hc1 hc2 HNX
            go_wp2_with (at_builtin; refine wpList_append_own _ rfl (.tmp 42) (.tmp 51) 29 rfl (rk + 1) 67 i0 _ 2 16 Try.underlying29 hi hz0 hz1 hz2 rfl (by decide) _ _ _ rfl (HO5.out.alloc _).2 ⟨W5.heap.size, 0, none⟩ 1 1 (cells [(y.at_, y.at_ + y.len)]) rfl rfl (new_one _ (y.at_, y.at_ + y.len) _ rfl) (cells_one_cell _) (by unfold maxLen; omega) (by omega) (by simp; omega) ?_)
            intro v' w6 hown' hgrow _
            have HG := Lib.hid hgrow
            have hlt5 : ∀ q, (Value.slice A n c).ownBlock = some q → rk + 1 ≤ q ∧ q < W5.heap.size := HO5.out.2.lt
            obtain ⟨⟨A8, c8, hv, hown2⟩, _, hbw, hzz, _⟩ := appL_step HO5.out (Below.refl (rk + 1) W5) hsz5 ((Below.refl _ _).alloc (Nat.le_refl _) _) (m := 1) (K := [(y.at_, y.at_ + y.len)]) rfl hown' hgrow
            rw [hv]
            have HO6 : Hid (Own w6 (rk + 1) A8 (n + 1) c8 (needK u b L ++ (needI b ⟨blk, some ⟨pb, po, none⟩, pc, parts⟩ k ++ [(y.at_, y.at_ + y.len)]))) := Lib.hid (by rw [← List.append_assoc]; exact hown2)
            have HB6 := Lib.hid (HB5.out.trans (hbw.mono (by omega)))
            have hrkl := HR5.out.vm.lt
            have HR6 := Lib.hid ((HR5.out.kept (World.grownBy_alloc W5 (.cells #[.int .i64 y.at_, .int .i64 (y.at_ + y.len)] 67) none) (by simp) (by simp)).kept hgrow (fun e => by have := (hlt5 sb e.symm).1; have := HSB4.out; have := HRK.out; omega) (fun e => by have := (hlt5 rk e.symm).1; omega))
            have e6 : ∀ (q : Nat) cs T (p : Nat × Nat), W5.heap[q]? = some (Obj.cells cs T p) → T ≠ 67 → w6.heap[q]? = W5.heap[q]? := fun q cs T p hq hT => by
              have hl := (Array.getElem?_eq_some_iff.1 hq).1
              rw [HG.out.block q (by simp; omega) (fun e => ownR_ne HO5.out hq hT e.symm)]
              exact (((Below.refl W5.heap.size W5).alloc (Nat.le_refl _) _).block q hl)
            have HX6 := Lib.hid ((e6 _ _ _ _ HX5.out (by decide)).trans HX5.out)
            have hszz : W5.heap.size ≤ w6.heap.size := by have := hgrow.size; simp at this; omega
            have HS6 := Lib.hid (HS5.out.same hszz (fun b' cs p hb' => e6 _ _ _ _ hb' (by decide)))
            have hsz6 : rk + 1 ≤ w6.heap.size := by omega
            clear hgrow hown' hv hown2 hbw hzz hlt5 e6 y0 y1 y2 v0 hrkl
            go_wp2_with fail
            go_roundw
            case measure => simp [intOf]; omega
            case rel => exact ⟨k + 1, A8, n + 1, c8, by omega, by go_num, rfl, by omega, Lib.hid ⟨HR6.out, by rw [HN6.out]; exact HO6.out, HB6.out, HX6.out, HS6.out⟩, hsz6⟩
          · have HN6 : Hid (needI b ⟨blk, some ⟨pb, po, none⟩, pc, parts⟩ (k + 1) = needI b ⟨blk, some ⟨pb, po, none⟩, pc, parts⟩ k) := Lib.hid (by rw [HNX.out, if_neg hc, List.append_nil])
            clear HNX
            by_cases hc1 : y.src = 0
            · have hc2 : blk = b := by
                by_cases h : blk = b
                · exact h
                · exact absurd ⟨hc1, h⟩ hc
              have f1 : (y.src == 0) = true := by simpa using hc1
              have f2 : (blk != b) = false := by simpa using hc2
              have f3 : (blk == b) = true := by simpa using hc2
              clear hc hc1 hc2
              go_wp2_with fail
              go_roundw
              case measure => simp [intOf]; omega
              case rel => exact ⟨k + 1, A, n, c, by omega, by go_num, rfl, by omega, Lib.hid ⟨HR5.out, by rw [HN6.out]; exact HO5.out, HB5.out, HX5.out, HS5.out⟩, hsz5⟩
            · have f1 : (y.src == 0) = false := by simpa using hc1
              clear hc hc1
              go_wp2_with fail
              go_roundw
              case measure => simp [intOf]; omega
              case rel => exact ⟨k + 1, A, n, c, by omega, by go_num, rfl, by omega, Lib.hid ⟨HR5.out, by rw [HN6.out]; exact HO5.out, HB5.out, HX5.out, HS5.out⟩, hsz5⟩
        · obtain rfl : k = parts.length := by omega
          clear hlk
          have HE : Hid (needK u b (L ++ [blk]) = needK u b L ++ needI b ⟨blk, PA, pc, parts⟩ parts.length) := Lib.hid (by rw [HKN.out, needI_all _ _ _ (Nat.le_refl _)])
          go_wp2_with fail
          go_roundg c'
          case measure => exact hlt
          case rel => exact ⟨L ++ [blk], A, n, c, rfl, by simp only [List.length_append, List.length_cons, List.length_nil]; omega, Lib.hid ⟨HJ.out.1, by rw [HE.out]; exact HJ.out.2.1, HJ.out.2.2.1⟩, hszJ⟩
end Go.Proofs.Yteceephenfmdoaa
