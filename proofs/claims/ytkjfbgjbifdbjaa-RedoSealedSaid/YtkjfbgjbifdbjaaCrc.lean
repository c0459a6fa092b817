/-
  The checksum of 32 bits, plain: its step can be undone, so bytes that differ in one place have other sums.
-/
import Derived.Laws.BitsLemmas
import Derived.Lib.EndianBits
namespace Go.Proofs.Ytkjfbgjbifdbjaa
def polyN : Nat := 3988292384
def stepN (s : Nat) : Nat := if s % 2 = 1 then (s / 2) ^^^ 3988292384 else s / 2
theorem stepN_lt {s : Nat} (h : s < 4294967296) : stepN s < 4294967296 := by
  unfold stepN
  split
  · exact Nat.xor_lt_two_pow (n := 32) (by omega) (by decide)
  · omega
def unstepN (t : Nat) : Nat := if t < 2147483648 then 2 * t else 2 * (t ^^^ 3988292384) + 1
theorem xor_high {a : Nat} (h : a < 2147483648) : 2147483648 ≤ a ^^^ 3988292384 := by
  have h1 : (a ^^^ 3988292384).testBit 31 = true := by
    rw [Nat.testBit_xor, Nat.testBit_lt_two_pow (show a < 2 ^ 31 from h)]
    decide
  exact Nat.ge_two_pow_of_testBit h1
theorem unstep_step {s : Nat} (h : s < 4294967296) : unstepN (stepN s) = s := by
  unfold stepN
  split
  · have h1 := xor_high (show s / 2 < 2147483648 by omega)
    unfold unstepN
    rw [if_neg (by omega), Nat.xor_assoc, Nat.xor_self, Nat.xor_zero]
    omega
  · unfold unstepN
    rw [if_pos (by omega)]
    omega
theorem stepN_inj {s t : Nat} (hs : s < 4294967296) (ht : t < 4294967296) (h : stepN s = stepN t) : s = t := by
  rw [← unstep_step hs, h, unstep_step ht]
def stepsN : Nat → Nat → Nat
  | 0, s => s
  | k+1, s => stepsN k (stepN s)
theorem stepsN_succ (k s : Nat) : stepsN (k+1) s = stepN (stepsN k s) := by
  induction k generalizing s with
  | zero => rfl
  | succ k ih => exact ih (stepN s)
theorem stepsN_lt (k : Nat) {s : Nat} (h : s < 4294967296) : stepsN k s < 4294967296 := by
  induction k generalizing s with
  | zero => exact h
  | succ k ih => exact ih (stepN_lt h)
theorem stepsN_inj (k : Nat) {s t : Nat} (hs : s < 4294967296) (ht : t < 4294967296) (h : stepsN k s = stepsN k t) : s = t := by
  induction k generalizing s t with
  | zero => exact h
  | succ k ih => exact stepN_inj hs ht (ih (stepN_lt hs) (stepN_lt ht) h)
/-- A sum moved on by bytes. -/
def crcGo (s : Nat) (l : List Int) : Nat := l.foldl (fun s b => stepsN 8 (s ^^^ b.toNat)) s
theorem crcGo_snoc (s : Nat) (l : List Int) (b : Int) : crcGo s (l ++ [b]) = stepsN 8 (crcGo s l ^^^ b.toNat) := by simp [crcGo]
theorem crcGo_append (s : Nat) (l m : List Int) : crcGo s (l ++ m) = crcGo (crcGo s l) m := by simp [crcGo]
def Byte (b : Int) : Prop := 0 ≤ b ∧ b ≤ 255
def Bytes (l : List Int) : Prop := ∀ b ∈ l, 0 ≤ b ∧ b ≤ 255
theorem xorB_lt {s : Nat} {b : Int} (h : s < 4294967296) (hb : 0 ≤ b ∧ b ≤ 255) : s ^^^ b.toNat < 4294967296 := Nat.xor_lt_two_pow (n := 32) (by omega) (by omega)
theorem crcGo_lt {s : Nat} (l : List Int) (h : s < 4294967296) (hl : Bytes l) : crcGo s l < 4294967296 := by
  induction l generalizing s with
  | nil => exact h
  | cons b l ih => exact ih (stepsN_lt 8 (xorB_lt h (hl b (by simp)))) (fun c hc => hl c (by simp [hc]))
theorem crcGo_inj {s t : Nat} (l : List Int) (hs : s < 4294967296) (ht : t < 4294967296) (hl : Bytes l) (h : crcGo s l = crcGo t l) : s = t := by
  induction l generalizing s t with
  | nil => exact h
  | cons b l ih =>
    have hb := hl b (by simp)
    have h1 := ih (stepsN_lt 8 (xorB_lt hs hb)) (stepsN_lt 8 (xorB_lt ht hb)) (fun c hc => hl c (by simp [hc])) h
    have h2 := stepsN_inj 8 (xorB_lt hs hb) (xorB_lt ht hb) h1
    have h3 : (s ^^^ b.toNat) ^^^ b.toNat = (t ^^^ b.toNat) ^^^ b.toNat := by rw [h2]
    simpa [Nat.xor_assoc] using h3
def crcOf (l : List Int) : Nat := crcGo 4294967295 l ^^^ 4294967295
theorem crcOf_lt {l : List Int} (hl : Bytes l) : crcOf l < 4294967296 := Nat.xor_lt_two_pow (n := 32) (crcGo_lt l (by decide) hl) (by decide)
theorem crc_turned (l m : List Int) (b c : Int) (hl : Bytes l) (hm : Bytes m) (hb : 0 ≤ b ∧ b ≤ 255) (hc : 0 ≤ c ∧ c ≤ 255) (hne : b ≠ c) : crcOf (l ++ b :: m) ≠ crcOf (l ++ c :: m) := by
  intro h
  unfold crcOf at h
  have h0 : crcGo 4294967295 (l ++ b :: m) = crcGo 4294967295 (l ++ c :: m) := by
    have h3 : (crcGo 4294967295 (l ++ b :: m) ^^^ 4294967295) ^^^ 4294967295 = (crcGo 4294967295 (l ++ c :: m) ^^^ 4294967295) ^^^ 4294967295 := by rw [h]
    simpa [Nat.xor_assoc] using h3
  rw [crcGo_append, crcGo_append] at h0
  have hs := crcGo_lt l (show (4294967295 : Nat) < 4294967296 by decide) hl
  have h1 := crcGo_inj m (stepsN_lt 8 (xorB_lt hs hb)) (stepsN_lt 8 (xorB_lt hs hc)) hm h0
  have h2 := stepsN_inj 8 (xorB_lt hs hb) (xorB_lt hs hc) h1
  have h4 : b.toNat = c.toNat := by
    have h3 : crcGo 4294967295 l ^^^ (crcGo 4294967295 l ^^^ b.toNat) = crcGo 4294967295 l ^^^ (crcGo 4294967295 l ^^^ c.toNat) := by rw [h2]
    simpa [← Nat.xor_assoc] using h3
  omega
open Go
theorem bits_xor_nat (k : IntKind) (j : Nat) (hj : j ≤ k.bits) (hk : ∀ n : Int, 0 ≤ n → n < 2 ^ j → k.wrap n = n) (a b : Nat) (ha : a < 2 ^ j) (hb : b < 2 ^ j) : bits .xor k a b = ((a ^^^ b : Nat) : Int) := by
  have hp : 2 ^ j ≤ 2 ^ k.bits := Nat.pow_le_pow_right (by decide) hj
  have ha' : a % 2 ^ k.bits = a := Nat.mod_eq_of_lt (Nat.lt_of_lt_of_le ha hp)
  have hb' : b % 2 ^ k.bits = b := Nat.mod_eq_of_lt (Nat.lt_of_lt_of_le hb hp)
  have cast : ∀ n : Nat, n < 2 ^ j → ((n : Nat) : Int) < 2 ^ j := fun n h => by exact_mod_cast h
  simp only [bits, BitVec.ofInt_natCast, BitVec.toNat_xor, BitVec.toNat_ofNat, ha', hb']
  exact hk _ (Int.natCast_nonneg _) (cast _ (Nat.xor_lt_two_pow ha hb))
theorem xor32 (a b : Nat) (ha : a < 4294967296) (hb : b < 4294967296) : bits .xor .u32 (a : Int) (b : Int) = ((a ^^^ b : Nat) : Int) := bits_xor_nat .u32 32 (by decide) wraps_u32 a b ha hb
theorem and1_32 (a : Nat) (ha : a < 4294967296) : bits .and .u32 (a : Int) 1 = ((a % 2 : Nat) : Int) := by
  have := bits_mask .u32 32 (by decide) wraps_u32 1 (by decide) (a : Int) (by omega) (by omega)
  simpa using this
theorem xor_ones {a : Nat} (h : a < 4294967296) : a ^^^ 4294967295 = 4294967295 - a := by
  apply Nat.eq_of_testBit_eq
  intro i
  have e : 4294967295 - a = 2 ^ 32 - (a + 1) := by omega
  rw [e, Nat.testBit_two_pow_sub_succ (n := 32) h, Nat.testBit_xor, show (4294967295 : Nat) = 2 ^ 32 - 1 from rfl, Nat.testBit_two_pow_sub_one]
  by_cases hi : i < 32
  · simp [hi]
  · simp [hi, Nat.testBit_lt_two_pow (Nat.lt_of_lt_of_le (show a < 2 ^ 32 from h) (Nat.pow_le_pow_right (by decide) (by omega : 32 ≤ i)))]
end Go.Proofs.Ytkjfbgjbifdbjaa
