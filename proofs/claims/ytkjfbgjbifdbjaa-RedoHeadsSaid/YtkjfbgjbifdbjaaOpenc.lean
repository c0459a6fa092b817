/-
  How long a slice of bytes may be that came in.
-/
import Derived.Test.YtkjfbgjbifdbjaaOpenb
namespace Go.Proofs.Ytkjfbgjbifdbjaa
open Go.ChangeShapes Go.WideShapes Go.Deep Go.RowKit
theorem bytes5 : Try.prog.bytesOf 5 = 1 := by kernel_rfl
/-- How long a slice of bytes may be that came in. -/
theorem sized_bytes {H : Type} {enc : TypeId × Value → H} {W : World} {A : Option Addr} {len cap : Nat} {d : DataW H} {p : List MemPlace} (h : DataW.Trod enc Try.prog W 0 (fun _ => true) true 25 (.slice A len cap) d p)
    {ts : List TypeId} {ds : List (DataW H)} (hsz : (DataW.weightsEach Try.prog ts ds).all (· ≤ reachBytes) = true) {j : Nat} (ht : ts[j]? = some 25) (hd : ds[j]? = some d) : len ≤ 140737488351232 := by
  obtain ⟨fuel, hf⟩ := h
  rcases open_ints Try.underlying25 Try.underlying5 (by kernel_rfl) hf with ⟨hcs, hx⟩ | ⟨a, len', cap', zs, hcs, _, hl, hm, hz, hx, _, _⟩
  · injection hcs with hv
    injection hv with _ hn _
    omega
  · injection hcs with hv
    injection hv with _ hn _
    injection hx with hdd _
    rw [hdd] at hd
    have hzl : len' ≤ zs.length := by rw [hz]; split <;> omega
    have := sized_slice hsz (j := j) (t := 25) (e := 5) ht hd Try.underlying25
    rw [bytes5] at this
    simp [lits] at this
    unfold reachBytes at this
    omega
end Go.Proofs.Ytkjfbgjbifdbjaa
