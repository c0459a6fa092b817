/-
  An append to a row of the call's own leaves it in its block, or moves it to a new one: so two rows of one call stay apart. No program in sight.
-/
import Derived.Test.YtdpjblepcpjomaaSApps
namespace Go
/-- Where an append to a row of the call's own leaves the row. -/
theorem run_append_block {P : Program} (w : World) (base : Nat) (t ty e : TypeId) (i : TypeInfo) (z : Value) (size bytes : Nat) (ht : P.underlying t = some (.slice e)) (hi : P.info? e = some i) (hz : i.zero = some z)
    (hsize : i.size = size) (hby : i.bytes = bytes) (v : Value) (n : Nat) (xs : List Value) (hown : w.ownsRow base e size v n xs)
    (a : Addr) (m c : Nat) (news : List Value) (hl : news.length = m * size) (hnews : ∀ j u, news[j]? = some u → w.cell? (a.add j) = some u) (h1 : ∀ u ∈ news, u.oneCell' = true)
    (h63 : n + m ≤ maxLen) (hbytes : (n + m) * bytes ≤ 140737488355328) {v' : Value} {w' : World} (hr : (Builtin.append_ #[t, t] ty #[v, .slice (some a) m c]).run P w = .ok v' w') :
    v'.ownBlock = v.ownBlock ∨ v'.ownBlock = some w.heap.size := by
  subst hsize
  subst hby
  have hsmall : n + m ≤ 9223372036854775807 := by simp only [maxLen] at h63; omega
  rcases hown.2 with ⟨rfl, rfl⟩ | ⟨g, cap, cur, rfl, hbg, hg, hnc, hcm, hcs, htake⟩
  · by_cases hm : m = 0
    · subst hm
      left
      have hn : news = [] := List.eq_nil_of_length_eq_zero (by simpa using hl)
      subst hn
      have hx : (Builtin.append_ #[t, t] ty #[.slice none 0 0, .slice (some a) 0 c]).run P w = .ok (.slice none 0 0) w := by
        simp [Builtin.append_, run_underlying ht, sizeOf, typeInfo, hi, Builtin.lenOf, Builtin.firstCells, loadCells, loadCellsFrom]
      rw [hx] at hr
      injection hr with h2 _
      rw [← h2]
    · right
      have hx := run_append_nil (P := P) w t ty e i z ht hi hz a m c news hl hnews (by omega) (by omega) (by simp only [Nat.zero_add] at hbytes; omega)
      rw [hx] at hr
      injection hr with h2 _
      rw [← h2]; rfl
  · by_cases hroom : n + m ≤ cap
    · left
      have hfit : n * i.size + news.length ≤ cur.size := by rw [hl, hcs, ← Nat.add_mul]; exact Nat.mul_le_mul_right _ hroom
      have hx := run_append_room (P := P) w t ty e i ht hi g n cap cur hg a m c news hl hnews h1 hroom hfit
      rw [hx] at hr
      injection hr with h2 _
      rw [← h2]; rfl
    · right
      have holds : ∀ j u, xs[j]? = some u → w.cell? ((⟨g, 0, none⟩ : Addr).add j) = some u := hown.cells (g := g) rfl
      have hx := run_append_grow (P := P) w t ty e i z ht hi hz ⟨g, 0, none⟩ n cap xs hown.1 holds a m c news hl hnews (by omega) (by omega) (growslice_fits (by omega) hbytes)
      rw [hx] at hr
      injection hr with h2 _
      rw [← h2]; rfl
theorem wpList_append_block {P : Program} {w : World} {ops : Array Oper} {rest : List Oper} {o : Oper} {a : Act} {Q : Exit → Act → World → Prop} (hgd : o.guard = none) (s x : Operand) (t : TypeId)
    (ho : o.op = .call { callee := .builtin .append, args := #[s, x], argTypes := #[t, t] })
    (base : Nat) (e : TypeId) (i : TypeInfo) (z : Value) (size bytes : Nat) (ht : P.underlying t = some (.slice e)) (hi : P.info? e = some i) (hz : i.zero = some z)
    (hsize : i.size = size) (hby : i.bytes = bytes) (hzs : z.cells.size = size) (hsz : 0 < size)
    (v : Value) (n : Nat) (xs : List Value) (hs : a.eval s = v) (hown : w.ownsRow base e size v n xs)
    (ad : Addr) (m c : Nat) (news : List Value) (hx : a.eval x = .slice (some ad) m c) (hl : news.length = m * size) (hnews : ∀ j u, news[j]? = some u → w.cell? (ad.add j) = some u) (h1 : ∀ u ∈ news, u.oneCell' = true)
    (h63 : n + m ≤ maxLen) (hbytes : (n + m) * bytes ≤ 140737488355328) (hbase : base ≤ w.heap.size)
    (h : ∀ v' w', w'.ownsRow base e size v' (n + m) (xs ++ news) → w.grownBy w' v.ownBlock → (v'.ownBlock = v.ownBlock ∨ v'.ownBlock = some w.heap.size) → wpList P ops Q rest (a.put o.dst v') w') : wpList P ops Q (o :: rest) a w := by
  refine wpList_plain hgd fun K hK => ?_
  obtain ⟨v', w', hr, h2, h3, h4⟩ := run_append_own (P := P) w base t o.type e i z size bytes ht hi hz hsize hby hzs hsz v n xs hown ad m c news hl hnews h1 h63 hbytes hbase
  have h5 := run_append_block (P := P) w base t o.type e i z size bytes ht hi hz hsize hby v n xs hown ad m c news hl hnews h1 h63 hbytes hr
  unfold Oper.wp execOp
  simp only [ho, resolve, invoke, builtin, Sem.run_bind, Sem.run_pure, Result.andThen_ok, List.map_toArray, List.map_cons, List.map_nil, hs, hx, hr]
  exact hK _ _ (h v' w' h2 h3 h5)
end Go
namespace Go.Proofs.Ytdpjblepcpjomaa.Sc
open Go.RowKit
/-- Two rows of one call do not share a block. -/
def Apart (A B : Option Addr) : Prop := ∀ a b, A = some a → B = some b → a.block ≠ b.block
theorem Apart.nil_left (B : Option Addr) : Apart none B := fun a b h _ => by cases h
theorem Apart.symm {A B : Option Addr} (h : Apart A B) : Apart B A := fun a b ha hb e => h b a hb ha e.symm
/-- Behind an append of one scrap to one of two rows of the call's own. -/
theorem app2_step {w wr W0 w1 : World} {BB n c n2 c2 : Nat} {A' B' : Option Addr} {L L2 : List S} {s' : S} {v' : Value} (hown : Own wr BB A' n c L) (hown2 : Own wr BB B' n2 c2 L2) (hap : Apart A' B') (hb : Below BB w wr) (hsz : BB ≤ wr.heap.size)
    (hW : Below wr.heap.size wr W0) (hown' : w1.ownsRow BB 56 3 v' (n+1) (cells L ++ cells [s'])) (hg : W0.grownBy w1 (Value.slice A' n c).ownBlock)
    (hbl : v'.ownBlock = (Value.slice A' n c).ownBlock ∨ v'.ownBlock = some W0.heap.size) :
    (∃ A'' c'', v' = .slice A'' (n+1) c'' ∧ Own w1 BB A'' (n+1) c'' (L ++ [s']) ∧ Apart A'' B') ∧ Own w1 BB B' n2 c2 L2 ∧ Below BB w w1 ∧ W0.heap.size ≤ w1.heap.size ∧ (∀ g o, wr.heap.size ≤ g → g < W0.heap.size → w1.cell? ⟨g, o, none⟩ = W0.cell? ⟨g, o, none⟩) := by
  obtain ⟨⟨A'', c'', hv, ho⟩, hb1, hb2, hz, hcl⟩ := app_step hown hb hsz hW hown' hg
  have hr2 : ∀ k, (Value.slice B' n2 c2).ownBlock = some k → BB ≤ k ∧ k < wr.heap.size := hown2.2.lt
  refine ⟨⟨A'', c'', hv, ho, ?_⟩, ?_, hb1, hz, hcl⟩
  · subst hv
    intro a b ha hb'
    subst ha; subst hb'
    have h2 := (hr2 b.block rfl).2
    rcases hbl with h | h
    · cases A' with
      | none => cases h
      | some a' =>
        simp only [Value.ownBlock, Option.some.injEq] at h
        rw [h]
        exact hap a' b rfl rfl
    · simp only [Value.ownBlock, Option.some.injEq] at h
      have := hW.size
      omega
  · have h3 := hown2.below hW (Nat.le_refl _)
    refine ⟨h3.1, h3.2.kept hg ?_⟩
    cases B' with
    | none => left; rfl
    | some b =>
      right
      cases A' with
      | none => simp [Value.ownBlock]
      | some a =>
        have := hap a b rfl rfl
        simp only [Value.ownBlock, ne_eq, Option.some.injEq]
        exact fun e => this e.symm
end Go.Proofs.Ytdpjblepcpjomaa.Sc
