/- Plain arithmetic of digits, a third text: lengths in bits, what is mixed from the top down. -/
import Derived.Test.YtmobnjlbbhhedaaGreatDoorNumB
set_option linter.unusedVariables false
set_option linter.unusedSimpArgs false
namespace Go.Proofs.YtmobnjlbbhhedaaGreatDoor
theorem B16_pow (q : Nat) : B16 ^ q = 2 ^ (16 * q) := by
  rw [Nat.pow_mul]
  rfl
/-- A number's length in bits, by its digits. -/
theorem isLen_digits2 {X n k : Nat} (h : IsLen B16 X (n + 1)) (hk : IsLen 2 (dig B16 X n) k) : IsLen 2 X (16 * n + k) := by
  have hp := Nat.pow_pos (n := n) B16_pos
  have hdiv : X / B16 ^ n = dig B16 X n := by
    have h1 : X / B16 ^ n < B16 := by
      rw [Nat.div_lt_iff_lt_mul hp, Nat.mul_comm, ← Nat.pow_succ]; exact h.1
    unfold dig
    rw [Nat.mod_eq_of_lt h1]
  have e : ∀ j, 2 ^ (16 * n + j) = 2 ^ j * B16 ^ n := fun j => by rw [B16_pow, ← Nat.pow_add, Nat.add_comm]
  have htop := h.top_ne B16_pos
  refine ⟨?_, fun m hm => ?_⟩
  · rw [e, ← Nat.div_lt_iff_lt_mul hp, hdiv]
    exact hk.1
  · apply Classical.byContradiction
    intro hlt
    by_cases hm64 : 16 * n ≤ m
    · obtain ⟨j, rfl⟩ : ∃ j, m = 16 * n + j := ⟨m - 16 * n, by omega⟩
      rw [e, ← Nat.div_lt_iff_lt_mul hp, hdiv] at hm
      have := hk.2 j hm
      omega
    · have h2 : X < 2 ^ (16 * n + 0) := Nat.lt_of_lt_of_le hm (Nat.pow_le_pow_right (by omega) (by omega))
      rw [e, Nat.pow_zero, Nat.one_mul] at h2
      exact htop (dig_ge B16_pos h2 (Nat.le_refl _))
theorem isLen2_of {d j : Nat} (h0 : d / 2 ^ j = 0) (h1 : j = 0 ∨ 0 < d / 2 ^ (j - 1)) : IsLen 2 d j := by
  have hp := Nat.two_pow_pos j
  have hd : d < 2 ^ j := by
    rcases Nat.div_eq_zero_iff.1 h0 with h | h
    · omega
    · exact h
  refine ⟨hd, fun m hm => ?_⟩
  rcases h1 with h1 | h1
  · omega
  · have h2 : 2 ^ (j - 1) ≤ d := by
      have := Nat.two_pow_pos (j - 1)
      apply Classical.byContradiction
      intro hlt
      rw [Nat.div_eq_of_lt (by omega)] at h1
      omega
    have := (Nat.pow_lt_pow_iff_right (a := 2) (by omega)).1 (Nat.lt_of_le_of_lt h2 hm)
    omega
theorem mix_down {B : Nat} (hB : 0 < B) (P Q i j : Nat) : dig B (mix B P Q i) j = if j = i then dig B Q i else dig B (mix B P Q (i + 1)) j := by
  rw [dig_mix hB, dig_mix hB]
  by_cases h : j = i
  · subst h; simp
  · rw [if_neg h]
    by_cases h1 : j < i
    · rw [if_pos h1, if_pos (by omega)]
    · rw [if_neg h1, if_neg (by omega)]
end Go.Proofs.YtmobnjlbbhhedaaGreatDoor
