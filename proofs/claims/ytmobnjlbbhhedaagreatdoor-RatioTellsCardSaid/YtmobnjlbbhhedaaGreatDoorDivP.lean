/- A long division, a limb at a time. No program in sight. -/
import Derived.Test.YtmobnjlbbhhedaaGreatDoorNumC
set_option linter.unusedVariables false
set_option linter.unusedSimpArgs false
namespace Go.Proofs.YtmobnjlbbhhedaaGreatDoor

theorem top_dig {B Y n : Nat} (hB : 0 < B) (h : Y < B ^ (n + 1)) : dig B Y n = Y / B ^ n := by
  unfold dig
  rw [Nat.mod_eq_of_lt]
  rw [Nat.div_lt_iff_lt_mul (Nat.pow_pos hB), Nat.mul_comm, ← Nat.pow_succ]
  exact h
/-- The guess at a limb is no less than it. -/
theorem long_guess {B P Y n : Nat} (hB : 0 < B) (hY : Y < B ^ (n + 1)) (hy : 0 < dig B Y n) (hP : P < B ^ (n + 2)) (hPY : P < Y * B) :
    P / Y ≤ (if dig B Y n ≤ dig B P (n + 1) then B - 1 else (dig B P (n + 1) * B + dig B P n) / dig B Y n) ∧ (if dig B Y n ≤ dig B P (n + 1) then B - 1 else (dig B P (n + 1) * B + dig B P n) / dig B Y n) < B := by
  have hp := Nat.pow_pos (n := n) hB
  have hY0 : 0 < Y := by
    rcases Nat.eq_zero_or_pos Y with h | h
    · subst h; rw [dig_zero] at hy; omega
    · exact h
  have e1 : dig B P (n + 1) * B + dig B P n = P / B ^ n := by
    have h1 := div_step B P n
    have h2 : dig B P (n + 1) = P / B ^ (n + 1) := top_dig hB hP
    rw [h2, h1]
  split
  · rename_i h
    have : P / Y < B := by rw [Nat.div_lt_iff_lt_mul hY0, Nat.mul_comm]; exact hPY
    omega
  · rename_i h
    have e2 := top_dig hB hY
    constructor
    · rw [e1, e2, Nat.div_div_eq_div_mul]
      refine Nat.div_le_div_left ?_ (Nat.mul_pos hp (by rw [← e2]; exact hy))
      rw [Nat.mul_comm]
      exact Nat.div_mul_le_self Y (B ^ n)
    · rw [Nat.div_lt_iff_lt_mul hy]
      have hd := dig_lt hB P n
      have h3 := Nat.mul_le_mul_right B (show dig B P (n + 1) + 1 ≤ dig B Y n by omega)
      rw [Nat.add_mul, Nat.one_mul] at h3
      rw [Nat.mul_comm B]
      omega
theorem long_first {B X Y n m k : Nat} (hB : 0 < B) (hX : X < B ^ m) (hy : B ^ n ≤ Y) (hm : m = n + k) : X % (Y * B ^ k) = X := by
  refine Nat.mod_eq_of_lt (Nat.lt_of_lt_of_le hX ?_)
  rw [hm, Nat.pow_add]
  exact Nat.mul_le_mul_right _ hy
/-- One limb of the quotient, and what is left then. -/
theorem long_step {B X Y k R P : Nat} (hB : 0 < B) (hY : 0 < Y) (hR : R = X % (Y * B ^ (k + 1))) (hP : P = R / B ^ k) :
    P < Y * B ∧ P / Y = dig B (X / Y) k ∧ P % Y * B ^ k + R % B ^ k = X % (Y * B ^ k) := by
  have hp := Nat.pow_pos (n := k) hB
  have hRl : R < Y * B ^ (k + 1) := by rw [hR]; exact Nat.mod_lt _ (Nat.mul_pos hY (Nat.pow_pos hB))
  have hPl : P < Y * B := by
    rw [hP, Nat.div_lt_iff_lt_mul hp]
    rw [Nat.pow_succ] at hRl
    have : Y * (B ^ k * B) = Y * B * B ^ k := by rw [Nat.mul_comm (B ^ k), Nat.mul_assoc]
    omega
  refine ⟨hPl, ?_, ?_⟩
  · have hd := Nat.div_add_mod X (Y * B ^ (k + 1))
    rw [← hR] at hd
    generalize X / (Y * B ^ (k + 1)) = Z at *
    have e : X / (Y * B ^ k) = Z * B + R / (Y * B ^ k) := by
      rw [← hd, show Y * B ^ (k + 1) * Z + R = R + Y * B ^ k * (Z * B) by rw [Nat.pow_succ, Nat.add_comm]; congr 1; simp only [Nat.mul_assoc, Nat.mul_comm B Z], Nat.add_mul_div_left _ _ (Nat.mul_pos hY hp), Nat.add_comm]
    have e2 : R / (Y * B ^ k) = P / Y := by rw [hP, Nat.div_div_eq_div_mul, Nat.mul_comm]
    unfold dig
    rw [Nat.div_div_eq_div_mul, e, e2, Nat.add_comm, Nat.add_mul_mod_self_right, Nat.mod_eq_of_lt]
    rw [Nat.div_lt_iff_lt_mul hY, Nat.mul_comm]
    exact hPl
  · have h1 : X % (Y * B ^ k) = R % (Y * B ^ k) := by
      rw [hR, Nat.mod_mod_of_dvd]
      exact Nat.mul_dvd_mul_left _ (Nat.pow_dvd_pow _ (by omega))
    rw [h1, hP, Nat.mul_comm Y, Nat.mod_mul]
    rw [Nat.mul_comm (B ^ k), Nat.add_comm]
/-- What is written back, digit by digit. -/
theorem back_dig {B L R k j : Nat} (hB : 0 < B) : dig B (L * B ^ k + R % B ^ k) j = if j < k then dig B R j else dig B L (j - k) := by
  have hp := Nat.pow_pos (n := k) hB
  have hm := Nat.mod_lt R hp
  by_cases h : j < k
  · rw [if_pos h]
    have h1 := dig_mod hB (L * B ^ k + R % B ^ k) k j
    rw [if_pos h, Nat.add_comm, Nat.add_mul_mod_self_right, Nat.mod_mod] at h1
    rw [Nat.add_comm, ← h1, dig_mod hB, if_pos h]
  · rw [if_neg h]
    unfold dig
    obtain ⟨d, rfl⟩ : ∃ d, j = k + d := ⟨j - k, by omega⟩
    rw [Nat.pow_add, ← Nat.div_div_eq_div_mul, Nat.add_comm (L * B ^ k), Nat.add_mul_div_right _ _ hp, Nat.div_eq_of_lt hm, Nat.zero_add, Nat.add_sub_cancel_left]
end Go.Proofs.YtmobnjlbbhhedaaGreatDoor
