/-
  A copy reads as its plan does; how many steps there are. Plain.
-/
import Derived.Test.YtblibmalommdkaaGreatKA
import Derived.Test.YtblibmalommdkaaGreatMD
namespace Go.Proofs.YtblibmalommdkaaGreat
open Go.RowKit
theorem totS_same {W V : List WvV} (h : W.map WvV.wv = V.map WvV.wv) : totS W = totS V := by
  have e : ∀ W : List WvV, totS W = (W.map WvV.wv).foldl (fun n v => IntKind.i64.wrap (n + v.length)) 0 := by
    intro W
    unfold totS
    rw [List.foldl_map]
    simp [WvV.wv]
  rw [e, e, h]
theorem sumS_le {M : Nat} : ∀ {W : List WvV}, (∀ v ∈ W, v.steps.length ≤ M) → sumS W ≤ W.length * M := by
  intro W
  induction W with
  | nil => intro _; simp [sumS]
  | cons v W ih =>
    intro h
    have h1 := h v (by simp)
    have h2 := ih (fun u hu => h u (by simp [hu]))
    simp only [sumS, List.length_cons, Nat.add_mul]
    omega
theorem le_sumS : ∀ {W : List WvV} {v : WvV}, v ∈ W → v.steps.length ≤ sumS W := by
  intro W
  induction W with
  | nil => intro v h; cases h
  | cons u W ih =>
    intro v h
    rcases List.mem_cons.1 h with rfl | h
    · simp only [sumS]; omega
    · have := ih h
      simp only [sumS]; omega
/-- A copy of a plan reads as a plan. -/
theorem OwnP.ok_of {w0 w : World} {B base : Nat} {p q : PlV} (h : OwnP w base q) (he : q.pln = p.pln) (hp : PlOk w0 B p) : PlOk w w.heap.size q := by
  simp only [PlV.pln, Pln.mk.injEq] at he
  obtain ⟨e0, e1, e2⟩ := he
  refine h.ok (fun v hv s hs => ?_) (by rw [e1]; exact hp.si) (by rw [e0]; exact hp.sz)
  have h1 : v.wv ∈ p.waves.map WvV.wv := by rw [← e2]; exact List.mem_map.2 ⟨v, hv, rfl⟩
  obtain ⟨v', hv', ev⟩ := List.mem_map.1 h1
  have h2 : s.st ∈ v'.wv := by rw [ev]; exact List.mem_map.2 ⟨s, hs, rfl⟩
  obtain ⟨s', hs', es⟩ := List.mem_map.1 h2
  obtain ⟨k, hk⟩ := List.getElem?_of_mem hv'
  obtain ⟨j, hj⟩ := List.getElem?_of_mem hs'
  obtain ⟨_, _, _, _, _, hwv⟩ := hp.wv k v' hk
  obtain ⟨_, _, _, _, _, _, hst⟩ := hwv.rd j s' hj
  have := hst.b
  have e : s'.blk = s.blk := congrArg Prod.fst es
  rw [← e]
  exact this
end Go.Proofs.YtblibmalommdkaaGreat
