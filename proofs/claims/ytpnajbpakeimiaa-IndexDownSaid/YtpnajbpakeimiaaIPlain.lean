/-
  What Count does chunk by chunk, plain: the counts that are known behind it, how much was read.
-/
import Derived.Test.YtpnajbpakeimiaaNMap
import Derived.Test.YtpnajbpakeimiaaECount
namespace Go.Proofs.Ytpnajbpakeimiaa
def seg (b : List Int) (fr e : Nat) : List Int := (b.drop fr).take (e - fr)
theorem seg_add (b : List Int) {i j k : Nat} (h1 : i ≤ j) (h2 : j ≤ k) : seg b i k = seg b i j ++ seg b j k := by
  unfold seg
  have e : k - i = (j - i) + (k - j) := by omega
  rw [e, List.take_add, List.drop_drop, show i + (j - i) = j by omega]
theorem cnt_seg (b : List Int) {i j k : Nat} (h1 : i ≤ j) (h2 : j ≤ k) : cnt (seg b i k) = cnt (seg b i j) + cnt (seg b j k) := by rw [seg_add b h1 h2, cnt_append]
theorem cnt_seg_take (b : List Int) {i k : Nat} (h : i ≤ k) : cnt (b.take k) = cnt (b.take i) + cnt (seg b i k) := by
  have := cnt_seg b (Nat.zero_le i) h
  simpa [seg] using this
theorem seg_len (b : List Int) {i k : Nat} (_h : i ≤ k) (hk : k ≤ b.length) : (seg b i k).length = k - i := by
  unfold seg; rw [List.length_take, List.length_drop]; omega
theorem cnt_seg_le (b : List Int) (i k : Nat) : cnt (seg b i k) ≤ k - i := by
  have := cnt_le (seg b i k)
  unfold seg at *
  rw [List.length_take] at this
  omega
def nxt (size to_ fr : Nat) : Nat := min (min ((fr / 64 + 1) * 64) size) to_
def whl (size to_ fr : Nat) : Prop := fr % 64 = 0 ∧ min ((fr / 64 + 1) * 64) size ≤ to_
instance (size to_ fr : Nat) : Decidable (whl size to_ fr) := by unfold whl; infer_instance
theorem nxt_gt {size to_ fr : Nat} (h : fr < to_) (hs : to_ ≤ size) : fr < nxt size to_ fr ∧ nxt size to_ fr ≤ to_ ∧ nxt size to_ fr ≤ size ∧ nxt size to_ fr - fr ≤ 64 := by unfold nxt; omega
def run (b : List Int) (to_ : Nat) : Nat → Nat → (Int → Option Int) × Int → (Int → Option Int) × Int
  | 0, _, s => s
  | f+1, fr, s => if fr < to_ then
      if whl b.length to_ fr then
        if (s.1 (fr / 64 : Nat)).isSome then run b to_ f (nxt b.length to_ fr) s
        else run b to_ f (nxt b.length to_ fr) (updN s.1 (fr / 64 : Nat) (cnt (seg b fr (nxt b.length to_ fr))), s.2 + (nxt b.length to_ fr - fr : Nat))
      else run b to_ f (nxt b.length to_ fr) (s.1, s.2 + (nxt b.length to_ fr - fr : Nat))
    else s
theorem run_end (b : List Int) (to_ f : Nat) (s : (Int → Option Int) × Int) : run b to_ f to_ s = s := by
  cases f with
  | zero => rfl
  | succ f => unfold run; rw [if_neg (Nat.lt_irrefl _)]
theorem run_known {b : List Int} {to_ f p : Nat} {s : (Int → Option Int) × Int} (h1 : p < to_) (h2 : whl b.length to_ p) (h3 : (s.1 (p / 64 : Nat)).isSome = true) : run b to_ (f+1) p s = run b to_ f (nxt b.length to_ p) s := by rw [run, if_pos h1, if_pos h2, if_pos h3]
theorem run_new {b : List Int} {to_ f p : Nat} {s : (Int → Option Int) × Int} (h1 : p < to_) (h2 : whl b.length to_ p) (h3 : s.1 (p / 64 : Nat) = none) : run b to_ (f+1) p s = run b to_ f (nxt b.length to_ p) (updN s.1 (p / 64 : Nat) (cnt (seg b p (nxt b.length to_ p))), s.2 + (nxt b.length to_ p - p : Nat)) := by rw [run, if_pos h1, if_pos h2, if_neg (by rw [h3]; simp)]
theorem run_part {b : List Int} {to_ f p : Nat} {s : (Int → Option Int) × Int} (h1 : p < to_) (h2 : ¬ whl b.length to_ p) : run b to_ (f+1) p s = run b to_ f (nxt b.length to_ p) (s.1, s.2 + (nxt b.length to_ p - p : Nat)) := by rw [run, if_pos h1, if_neg h2]
/-- What is known is right. -/
def Good (b : List Int) (u : Int → Option Int) : Prop := ∀ c v, u c = some v → ∃ k : Nat, c = k ∧ 64 * k < b.length ∧ v = cnt (seg b (64 * k) (min (64 * k + 64) b.length))
theorem Good.none (b : List Int) : Good b (fun _ => none) := fun c v h => by cases h
theorem whl_seg {b : List Int} {to_ fr : Nat} (h : whl b.length to_ fr) : seg b fr (nxt b.length to_ fr) = seg b (64 * (fr / 64)) (min (64 * (fr / 64) + 64) b.length) := by
  unfold whl at h
  have e1 : 64 * (fr / 64) = fr := by omega
  have e2 : nxt b.length to_ fr = min (64 * (fr / 64) + 64) b.length := by unfold nxt; omega
  rw [e1, e2, e1]
theorem Good.known {b : List Int} {u : Int → Option Int} (hG : Good b u) {to_ fr : Nat} (h : whl b.length to_ fr) {v : Int} (hv : u (fr / 64 : Nat) = some v) : v = cnt (seg b fr (nxt b.length to_ fr)) := by
  obtain ⟨k, hk, _, e⟩ := hG _ _ hv
  have : k = fr / 64 := by omega
  subst this
  rw [whl_seg h]; exact e
theorem Good.put {b : List Int} {u : Int → Option Int} (hG : Good b u) {to_ fr : Nat} (h : whl b.length to_ fr) (hlt : fr < b.length) : Good b (updN u (fr / 64 : Nat) (cnt (seg b fr (nxt b.length to_ fr)))) := by
  intro c v hv
  unfold updN at hv
  split at hv
  · rename_i hc
    injection hv with hv
    exact ⟨fr / 64, hc, by omega, by rw [← hv, whl_seg h]⟩
  · exact hG c v hv
theorem run_keys (b : List Int) (to_ : Nat) (hs : to_ ≤ b.length) : ∀ (f fr : Nat) (s : (Int → Option Int) × Int), to_ - fr ≤ f → ∀ c : Nat, ((run b to_ f fr s).1 c).isSome = true ↔ (s.1 c).isSome = true ∨ (fr ≤ 64 * c ∧ min (64 * c + 64) b.length ≤ to_ ∧ 64 * c < to_) := by
  intro f
  induction f with
  | zero =>
    intro fr s h c
    show (s.1 c).isSome = true ↔ _
    exact ⟨.inl, fun h => h.elim id fun h => by omega⟩
  | succ f ih =>
    intro fr s h c
    unfold run
    by_cases hlt : fr < to_
    · rw [if_pos hlt]
      obtain ⟨n1, n2, n3, n4⟩ := nxt_gt hlt hs
      have hn : nxt b.length to_ fr = min (min ((fr / 64 + 1) * 64) b.length) to_ := rfl
      by_cases hw : whl b.length to_ fr
      · rw [if_pos hw]
        have hw2 := hw
        unfold whl at hw2
        by_cases hk : (s.1 (fr / 64 : Nat)).isSome = true
        · rw [if_pos hk, ih _ _ (by omega)]
          constructor
          · rintro (h1 | h1)
            · exact .inl h1
            · exact .inr ⟨by omega, h1.2⟩
          · rintro (h1 | h1)
            · exact .inl h1
            · by_cases hc : c = fr / 64
              · subst hc; exact .inl hk
              · exact .inr ⟨by omega, h1.2⟩
        · rw [if_neg hk, ih _ _ (by omega)]
          have e : ((updN s.1 (fr / 64 : Nat) (cnt (seg b fr (nxt b.length to_ fr)))) (c : Int)).isSome = true ↔ c = fr / 64 ∨ (s.1 c).isSome = true := by
            unfold updN
            by_cases hc : (c : Int) = (fr / 64 : Nat)
            · rw [if_pos hc]; simp; omega
            · rw [if_neg hc]
              exact ⟨.inr, fun h => h.resolve_left (by omega)⟩
          rw [e]
          constructor
          · rintro ((h1 | h1) | h1)
            · exact .inr ⟨by omega, by omega, by omega⟩
            · exact .inl h1
            · exact .inr ⟨by omega, h1.2⟩
          · rintro (h1 | h1)
            · exact .inl (.inr h1)
            · by_cases hc : c = fr / 64
              · exact .inl (.inl hc)
              · exact .inr ⟨by omega, h1.2⟩
      · rw [if_neg hw, ih _ _ (by omega)]
        unfold whl at hw
        constructor
        · rintro (h1 | h1)
          · exact .inl h1
          · exact .inr ⟨by omega, h1.2⟩
        · rintro (h1 | h1)
          · exact .inl h1
          · refine .inr ⟨?_, h1.2⟩
            by_cases hc : c = fr / 64
            · exfalso; apply hw; omega
            · omega
    · rw [if_neg hlt]
      exact ⟨.inl, fun h => h.elim id fun h => by omega⟩
end Go.Proofs.Ytpnajbpakeimiaa
