/-
  There is a least free page, no farther than there are pages that are not free. Plain.
-/
namespace Go.Proofs.Ytgpgfjdhlgkhdaa
theorem pig (res : Int) : ∀ (n : Nat) (K : List Int), (∀ i : Nat, i < n → res + (i : Int) ∈ K) → n ≤ K.length
  | 0, _, _ => Nat.zero_le _
  | n+1, K, h => by
    have hm : res + (n : Int) ∈ K := h n (Nat.lt_succ_self _)
    have ih := pig res n (K.erase (res + (n : Int))) (fun i hi => (List.mem_erase_of_ne (by omega)).2 (h i (by omega)))
    rw [List.length_erase_of_mem hm] at ih
    have := List.length_pos_of_mem hm
    omega
theorem least_or (res : Int) (P : Int → Bool) : ∀ n : Nat, (∃ j : Int, res ≤ j ∧ j < res + n ∧ P j = false ∧ ∀ i, res ≤ i → i < j → P i = true) ∨ (∀ i : Nat, i < n → P (res + i) = true)
  | 0 => .inr fun i hi => by omega
  | n+1 => by
    rcases least_or res P n with ⟨j, h1, h2, h3, h4⟩ | h
    · exact .inl ⟨j, h1, by omega, h3, h4⟩
    · rcases Bool.eq_false_or_eq_true (P (res + n)) with hp | hp
      · refine .inr fun i hi => ?_
        by_cases he : i = n
        · subst he; exact hp
        · exact h i (by omega)
      · refine .inl ⟨res + n, by omega, by omega, hp, fun i h1 h2 => ?_⟩
        have := h (i - res).toNat (by omega)
        have e : res + ((i - res).toNat : Int) = i := by omega
        rwa [e] at this
theorem least_free (res : Int) (P : Int → Bool) (K : List Int) (hK : ∀ j, P j = true → j ∈ K) : ∃ j : Int, res ≤ j ∧ j ≤ res + K.length ∧ P j = false ∧ ∀ i, res ≤ i → i < j → P i = true := by
  rcases least_or res P (K.length + 1) with ⟨j, h1, h2, h3, h4⟩ | h
  · exact ⟨j, h1, by omega, h3, h4⟩
  · have := pig res (K.length + 1) K (fun i hi => hK _ (h i hi))
    omega
end Go.Proofs.Ytgpgfjdhlgkhdaa
