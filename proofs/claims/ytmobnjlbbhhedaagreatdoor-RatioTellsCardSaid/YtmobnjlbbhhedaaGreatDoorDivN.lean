/- A division of two digits by one, a digit at a time. No program in sight. -/
import Derived.Test.YtmobnjlbbhhedaaGreatDoorNumB
set_option linter.unusedVariables false
set_option linter.unusedSimpArgs false
namespace Go.Proofs.YtmobnjlbbhhedaaGreatDoor

theorem dv_ex (q y1 y0 : Nat) : q * (y1 * 4294967296 + y0) = q * y1 * 4294967296 + q * y0 := by rw [Nat.mul_add, Nat.mul_assoc]
/-- A guess at a digit: q, and what it leaves of the number's highest digits. -/
def Guess (y1 y0 u v q r : Nat) : Prop := q * y1 + r = u ∧ u * 4294967296 + v < (q + 1) * (y1 * 4294967296 + y0)
theorem guess_le {y1 y0 u v q r : Nat} (h1 : 2147483648 ≤ y1) (h0 : y0 < 4294967296) (hu : u < y1 * 4294967296 + y0) (h : Guess y1 y0 u v q r) : q ≤ 4294967297 := by
  apply Classical.byContradiction
  intro hn
  have := Nat.mul_le_mul_right y1 (show 4294967298 ≤ q by omega)
  have := h.1
  omega
theorem guess_first {y1 y0 u v : Nat} (h1 : 2147483648 ≤ y1) (h2 : y1 < 4294967296) (hv : v < 4294967296) : Guess y1 y0 u v (u / y1) (u % y1) ∧ u % y1 < 4294967296 := by
  have hr := Nat.mod_lt u (show 0 < y1 by omega)
  have hd := Nat.div_add_mod u y1
  rw [Nat.mul_comm] at hd
  refine ⟨⟨hd, ?_⟩, by omega⟩
  rw [Nat.add_mul, dv_ex, Nat.one_mul]
  generalize u / y1 * y1 = p at *
  generalize u / y1 * y0 = m at *
  omega
/-- Too great: one less. -/
theorem guess_next {y1 y0 u v q r : Nat} (h0 : y0 < 4294967296) (hu : u < y1 * 4294967296 + y0) (hv : v < 4294967296) (h : Guess y1 y0 u v q r) (hc : 4294967296 ≤ q ∨ 4294967296 * r + v < q * y0) :
    0 < q ∧ Guess y1 y0 u v (q - 1) (r + y1) := by
  obtain ⟨e, hl⟩ := h
  have hlt : u * 4294967296 + v < q * (y1 * 4294967296 + y0) := by
    rcases hc with hc | hc
    · have := Nat.mul_le_mul_right (y1 * 4294967296 + y0) hc
      omega
    · rw [dv_ex]
      omega
  have hq : 0 < q := by
    rcases Nat.eq_zero_or_pos q with h | h
    · subst h; simp at hlt
    · exact h
  refine ⟨hq, ?_, ?_⟩
  · have : (q - 1) * y1 + y1 = q * y1 := by
      rw [← Nat.succ_mul]; congr 1; omega
    omega
  · rwa [Nat.sub_add_cancel hq]
/-- Small enough: it is the digit. -/
theorem guess_done {y1 y0 u v q r : Nat} (h : Guess y1 y0 u v q r) (hc : q * y0 ≤ 4294967296 * r + v) : q = (u * 4294967296 + v) / (y1 * 4294967296 + y0) := by
  obtain ⟨e, hl⟩ := h
  have hle : q * (y1 * 4294967296 + y0) ≤ u * 4294967296 + v := by rw [dv_ex]; omega
  have hy : 0 < y1 * 4294967296 + y0 := by
    rcases Nat.eq_zero_or_pos (y1 * 4294967296 + y0) with h0 | h0
    · rw [h0] at hl
      simp at hl
    · exact h0
  rw [Nat.add_mul, Nat.one_mul] at hl
  exact ((Nat.div_eq_iff hy).2 ⟨hle, by omega⟩).symm
theorem guess_out {y1 y0 u v q r : Nat} (h0 : y0 < 4294967296) (h : Guess y1 y0 u v q r) (hq : q ≤ 4294967296) (hr : 4294967296 ≤ r) : q = (u * 4294967296 + v) / (y1 * 4294967296 + y0) := by
  refine guess_done h ?_
  have h1 := Nat.mul_le_mul hq (show y0 ≤ 4294967295 by omega)
  omega
theorem guess_bounds {y1 y0 u v q r : Nat} (h1 : 2147483648 ≤ y1) (h0 : y0 < 4294967296) (hu : u < y1 * 4294967296 + y0) (hv : v < 4294967296) (hr : r < 4294967296) (h : Guess y1 y0 u v q r) :
    q ≤ 4294967297 ∧ q * y0 < 18446744073709551616 ∧ 4294967296 * r + v < 18446744073709551616 := by
  have hq := guess_le h1 h0 hu h
  refine ⟨hq, ?_, by omega⟩
  have := Nat.mul_le_mul hq (show y0 ≤ 4294967295 by omega)
  omega
/-- What is left behind a digit. -/
theorem digit_left {y u v : Nat} (hu : u < y) (hv : v < 4294967296) : (u * 4294967296 + v) / y < 4294967296 ∧ (u * 4294967296 + v) % y = u * 4294967296 + v - (u * 4294967296 + v) / y * y ∧ (u * 4294967296 + v) / y * y ≤ u * 4294967296 + v ∧ (u * 4294967296 + v) % y < y := by
  have hy : 0 < y := by omega
  have hd := Nat.div_add_mod (u * 4294967296 + v) y
  rw [Nat.mul_comm] at hd
  refine ⟨?_, by omega, by omega, Nat.mod_lt _ hy⟩
  rw [Nat.div_lt_iff_lt_mul hy]
  have := Nat.mul_le_mul_right 4294967296 (show u + 1 ≤ y by omega)
  rw [Nat.mul_comm y] at this
  omega
theorem two_digits_of {b N y u v1 v0 : Nat} (hN : N = (u * b + v1) * b + v0) (hu : u < y) :
    N / y = (u * b + v1) / y * b + ((u * b + v1) % y * b + v0) / y ∧ N % y = ((u * b + v1) % y * b + v0) % y := by
  have hy : 0 < y := by omega
  have hd := Nat.div_add_mod (u * b + v1) y
  generalize (u * b + v1) / y = a at *
  generalize (u * b + v1) % y = c at *
  have e : N = (c * b + v0) + y * (a * b) := by
    rw [hN, ← hd, Nat.add_mul, Nat.mul_assoc]; omega
  rw [e, Nat.add_mul_div_left _ _ hy, Nat.add_mul_mod_self_left]
  exact ⟨by omega, rfl⟩
/-- Both digits. -/
theorem two_digits {N y u v1 v0 : Nat} (hN : N = (u * 4294967296 + v1) * 4294967296 + v0) (hu : u < y) :
    N / y = (u * 4294967296 + v1) / y * 4294967296 + ((u * 4294967296 + v1) % y * 4294967296 + v0) / y ∧ N % y = ((u * 4294967296 + v1) % y * 4294967296 + v0) % y := two_digits_of hN hu
/-- Moved up, the number and the one that it is divided by. -/
theorem moved_div (N y s : Nat) : N * 2 ^ s / (y * 2 ^ s) = N / y ∧ N * 2 ^ s % (y * 2 ^ s) / 2 ^ s = N % y := by
  have hp := Nat.two_pow_pos s
  refine ⟨Nat.mul_div_mul_right _ _ hp, ?_⟩
  rw [Nat.mul_mod_mul_right, Nat.mul_div_cancel _ hp]
theorem moved_parts {hi lo y s : Nat} (hs : s < 64) (hlo : lo < 18446744073709551616) (hy : y * 2 ^ s < 18446744073709551616) (hlt : hi < y) :
    (hi * 18446744073709551616 + lo) * 2 ^ s = (hi * 2 ^ s + lo / 2 ^ (64 - s)) * 18446744073709551616 + lo * 2 ^ s % 18446744073709551616 ∧ lo / 2 ^ (64 - s) < 2 ^ s ∧ hi * 2 ^ s + lo / 2 ^ (64 - s) < y * 2 ^ s := by
  have hp := Nat.two_pow_pos s
  have hp2 := Nat.two_pow_pos (64 - s)
  have e : 2 ^ s * 2 ^ (64 - s) = 18446744073709551616 := by rw [← Nat.pow_add]; rw [show s + (64 - s) = 64 by omega]
  have h1 : lo / 2 ^ (64 - s) < 2 ^ s := by rw [Nat.div_lt_iff_lt_mul hp2, e]; exact hlo
  have h2 : lo * 2 ^ s / 18446744073709551616 = lo / 2 ^ (64 - s) := by
    rw [← e, Nat.mul_comm lo, Nat.mul_div_mul_left _ _ hp]
  have h3 := Nat.div_add_mod (lo * 2 ^ s) 18446744073709551616
  rw [h2] at h3
  have h4 := Nat.mul_le_mul_right (2 ^ s) (show hi + 1 ≤ y by omega)
  rw [Nat.add_mul, Nat.one_mul] at h4
  refine ⟨?_, h1, by omega⟩
  rw [Nat.add_mul, Nat.mul_right_comm]
  generalize hi * 2 ^ s = H at *
  generalize lo * 2 ^ s % 18446744073709551616 = L at *
  generalize lo / 2 ^ (64 - s) = M at *
  omega
end Go.Proofs.YtmobnjlbbhhedaaGreatDoor
