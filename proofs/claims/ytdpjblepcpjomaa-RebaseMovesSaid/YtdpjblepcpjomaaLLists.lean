/-
  Slices of slices of scraps in memory. No program in sight.
-/
import Derived.Test.YtdpjblepcpjomaaLSmall
namespace Go.Proofs.Ytdpjblepcpjomaa.Rb
open Go.RowKit
/-- A slice of slices of scraps that reads as a list of lists; nil where it has nothing, and with numbers that may be. -/
def RdLN (w : World) (B : Nat) (A : Option Addr) (ls : List (List S)) : Prop :=
  ∀ k l, ls[k]? = some l → ∃ b off Ak ck, A = some ⟨b, off, none⟩ ∧ b < B ∧ w.cell? ⟨b, off + k, none⟩ = some (.slice Ak l.length ck) ∧ (Ak = none → l.length = 0 ∧ ck = 0) ∧ l.length ≤ 9223372036854775807 ∧ (∀ s ∈ l, I64 s.src ∧ I64 s.at_ ∧ I64 s.len) ∧ Sc.Rd w B Ak l
theorem RdLN.rd {w : World} {B : Nat} {A : Option Addr} {ls : List (List S)} (h : RdLN w B A ls) : Sc.RdL w B A ls := by
  intro k l hl
  obtain ⟨b, off, Ak, ck, h1, h2, h3, _, _, _, h4⟩ := h k l hl
  exact ⟨b, off, Ak, ck, h1, h2, h3, h4⟩
theorem RdLN.below {w w' : World} {B B' : Nat} {A : Option Addr} {l : List (List S)} (h : RdLN w B A l) (hb : Below B' w w') (hB : B ≤ B') : RdLN w' B A l := by
  intro k l hl
  obtain ⟨b, off, Ak, ck, e, hlt, hc, hn, hm, hi, hr⟩ := h k l hl
  exact ⟨b, off, Ak, ck, e, hlt, (hb.cell (p := ⟨b, off + k, none⟩) (show b < B' by omega)).trans hc, hn, hm, hi, hr.below hb hB⟩
theorem RdLN.up {w w' : World} {A : Option Addr} {l : List (List S)} (h : RdLN w w.heap.size A l) (hb : Below w.heap.size w w') : RdLN w' w'.heap.size A l := by
  intro k l hl
  obtain ⟨b, off, Ak, ck, e, hlt, hc, hn, hm, hi, hr⟩ := h.below hb (Nat.le_refl _) k l hl
  exact ⟨b, off, Ak, ck, e, by have := hb.size; omega, hc, hn, hm, hi, hr.more hb.size⟩
end Go.Proofs.Ytdpjblepcpjomaa.Rb
