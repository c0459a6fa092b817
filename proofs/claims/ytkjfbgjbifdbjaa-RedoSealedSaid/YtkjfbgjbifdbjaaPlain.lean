/-
  A head's bytes, plain.
-/
import Derived.Test.YtkjfbgjbifdbjaaWalkd
import Derived.Test.YtkjfbgjbifdbjaaZeros
namespace Go.Proofs.Ytkjfbgjbifdbjaa
open Go.RowKit
structure Hd where
  wave : Int
  ready : Bool
  body : Int
  sum : Int
def Hd.val (h : Hd) : Value := .agg #[.int .i64 h.wave, .bool h.ready, .int .i64 h.body, .int .u32 h.sum]
def hd0 : Hd := ⟨0, false, 0, 0⟩
def bit (r : Bool) : Int := if r then 1 else 0
def lettersL : List Int := [111, 99, 116, 97, 118, 111, 45, 106]
def headL (h : Hd) : List Int := lettersL ++ leB h.wave 4 ++ leB (bit h.ready) 1 ++ (leB h.body 4 ++ leB h.sum 4)
def preL (h : Hd) : List Int := headL h ++ List.replicate 39 0
def packL (h : Hd) : List Int := preL h ++ leB (crcOf (preL h)) 4
def okH (h : Hd) : Prop := 0 ≤ h.wave ∧ h.wave ≤ 2147483647 ∧ 0 ≤ h.body ∧ h.body ≤ 2147483647
theorem bit_bd (r : Bool) : 0 ≤ bit r ∧ bit r ≤ 1 := by cases r <;> simp [bit]
theorem bytes_append {l m : List Int} (hl : Bytes l) (hm : Bytes m) : Bytes (l ++ m) := fun b hb => (List.mem_append.1 hb).elim (hl b) (hm b)
theorem letters_bytes : Bytes lettersL := by intro b hb; simp [lettersL] at hb; omega
theorem zeros_bytes (n : Nat) : Bytes (List.replicate n 0) := by intro b hb; rw [List.eq_of_mem_replicate hb]; omega
theorem head_bytes (h : Hd) : Bytes (headL h) := bytes_append (bytes_append (bytes_append letters_bytes (leB_bytes _ _)) (leB_bytes _ _)) (bytes_append (leB_bytes _ _) (leB_bytes _ _))
theorem pre_bytes (h : Hd) : Bytes (preL h) := bytes_append (head_bytes h) (zeros_bytes _)
theorem pack_bytes (h : Hd) : Bytes (packL h) := bytes_append (pre_bytes h) (leB_bytes _ _)
theorem head_length (h : Hd) : (headL h).length = 21 := by simp [headL, lettersL, leB]
theorem pre_length (h : Hd) : (preL h).length = 60 := by simp [preL, head_length]
theorem pack_length (h : Hd) : (packL h).length = 64 := by simp [packL, pre_length, leB]
theorem lit_letters (w : World) (base : Nat) (hb : base ≤ w.heap.size) (g : Nat) (hg : g = w.heap.size) : OwnB (w.alloc (.cells #[.int .u8 111, .int .u8 99, .int .u8 116, .int .u8 97, .int .u8 118, .int .u8 111, .int .u8 45, .int .u8 106] 5)) base (some ⟨g, 0, none⟩) 8 8 lettersL := by
  subst hg
  exact ⟨rfl, World.ownsRow_lit (base := base) (e := 5) (size := 1) w _ 8 hb (by decide) rfl⟩
theorem rdI_lit1 (w : World) (x : Int) (g : Nat) (hg : g = w.heap.size) : RdI (w.alloc (.cells #[.int .i64 x] 3)) (w.alloc (.cells #[.int .i64 x] 3)).heap.size (some ⟨g, 0, none⟩) [x] := by
  subst hg
  intro k v hv
  match k with
  | 0 =>
    simp at hv
    subst hv
    exact ⟨_, 0, rfl, by simp, by rw [cell_new]; rfl⟩
  | k+1 => simp at hv
theorem rdI_lit2 (w : World) (x y : Int) (g : Nat) (hg : g = w.heap.size) : RdI (w.alloc (.cells #[.int .i64 x, .int .i64 y] 3)) (w.alloc (.cells #[.int .i64 x, .int .i64 y] 3)).heap.size (some ⟨g, 0, none⟩) [x, y] := by
  subst hg
  intro k v hv
  match k with
  | 0 =>
    simp at hv
    subst hv
    exact ⟨_, 0, rfl, by simp, by rw [cell_new]; rfl⟩
  | 1 =>
    simp at hv
    subst hv
    exact ⟨_, 0, rfl, by simp, by rw [cell_new]; rfl⟩
  | k+2 => simp at hv
end Go.Proofs.Ytkjfbgjbifdbjaa
