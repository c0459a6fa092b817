/-
  What ranges.Both answers: the right list of what each of two lists has.
-/
import Derived.Test.YtdpjblepcpjomaaRWalkd
import Derived.Deep.RegionHeld3
namespace Go.Proofs.Ytdpjblepcpjomaa
open Go.RowKit
theorem Rd.cons {w : World} {B : Nat} {A : Option Addr} {s : R} {l : List R} (h : Rd w B A (s :: l)) : ∃ b off, A = some ⟨b, off, none⟩ ∧ b < B ∧ w.cell? ⟨b, off, none⟩ = some (.int .i64 s.1) ∧ w.cell? ⟨b, off + 1, none⟩ = some (.int .i64 s.2) := by
  obtain ⟨b, off, e, hb, h0, h1⟩ := h 0 s rfl
  exact ⟨b, off, e, hb, by simpa using h0, by simpa using h1⟩
def lenV : Value → Nat
  | .slice _ n _ => n
  | _ => 0
end Go.Proofs.Ytdpjblepcpjomaa
