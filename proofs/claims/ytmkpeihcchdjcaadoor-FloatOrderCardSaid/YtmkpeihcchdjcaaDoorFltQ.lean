/- Floats as keys: their order is that of the numbers. No program in sight. -/
import Derived.Test.YtmkpeihcchdjcaaDoorFlo
set_option linter.unusedVariables false
set_option linter.unusedSimpArgs false
namespace Go.Proofs.YtmkpeihcchdjcaaDoor

/-- -1, 0 or 1. -/
def sgz (z : Int) : Int := if z < 0 then -1 else if z = 0 then 0 else 1
theorem sgz_neg (z : Int) : sgz (-z) = -sgz z := by unfold sgz; repeat' split <;> omega
theorem rv_step (R : Nat) : rv R < rv (R + 1) := by
  obtain ⟨L, k, hk, hR⟩ : ∃ L k, k < 4503599627370496 ∧ R = L * 4503599627370496 + k := ⟨R / 4503599627370496, R % 4503599627370496, Nat.mod_lt _ (by omega), by omega⟩
  subst hR
  have e1 : rv (L * 4503599627370496 + k) = if L = 0 then k else (4503599627370496 + k) * 2 ^ (L - 1) := by
    unfold rv
    by_cases h : L = 0
    · subst h; rw [if_pos (by omega), if_pos rfl]; omega
    · rw [if_neg (by omega), if_neg h, show (L * 4503599627370496 + k) % 4503599627370496 = k by omega, show (L * 4503599627370496 + k) / 4503599627370496 = L by omega]
  have e2 : rv (L * 4503599627370496 + k + 1) = if k + 1 < 4503599627370496 then (if L = 0 then k + 1 else (4503599627370496 + k + 1) * 2 ^ (L - 1)) else 4503599627370496 * 2 ^ L := by
    unfold rv
    by_cases h : k + 1 < 4503599627370496
    · rw [if_pos h]
      by_cases h0 : L = 0
      · subst h0; rw [if_pos (by omega), if_pos rfl]; omega
      · rw [if_neg (by omega), if_neg h0, show (L * 4503599627370496 + k + 1) % 4503599627370496 = k + 1 by omega, show (L * 4503599627370496 + k + 1) / 4503599627370496 = L by omega, Nat.add_assoc]
    · rw [if_neg h, if_neg (by omega), show (L * 4503599627370496 + k + 1) % 4503599627370496 = 0 by omega, show (L * 4503599627370496 + k + 1) / 4503599627370496 = L + 1 by omega]
      rfl
  rw [e1, e2]
  have hp := Nat.two_pow_pos (L - 1)
  by_cases h0 : L = 0
  · subst h0
    rw [if_pos rfl, if_pos rfl]
    split <;> simp <;> omega
  · rw [if_neg h0, if_neg h0]
    split
    · exact Nat.mul_lt_mul_of_pos_right (by omega) hp
    · have e : 2 ^ L = 2 * 2 ^ (L - 1) := by rw [Nat.mul_comm, ← Nat.pow_succ]; congr 1; omega
      rw [e]
      generalize 2 ^ (L - 1) = P at *
      have h2 : 4503599627370496 * (2 * P) = 9007199254740992 * P := by omega
      rw [h2]
      exact Nat.mul_lt_mul_of_pos_right (by omega) hp
theorem rv_mono {R S : Nat} (h : R < S) : rv R < rv S := by
  obtain ⟨d, rfl⟩ : ∃ d, S = R + 1 + d := ⟨S - R - 1, by omega⟩
  clear h
  induction d with
  | zero => exact rv_step R
  | succ d ih => exact Nat.lt_trans ih (rv_step _)
theorem rv_zero' : rv 0 = 0 := rfl
/-- A number that rises with a finite float. -/
def keyI (x : Nat) : Int := if 9223372036854775808 ≤ x then -((x % 9223372036854775808 : Nat) : Int) else (x : Int)
theorem val_key {x : Nat} (hx : x < 18446744073709551616) (hf : isFin x) : ∃ (s : Bool) (R : Nat), keyI x = (if s then -(R : Int) else (R : Int)) ∧ val x = (if s then -(rv R : Int) else (rv R : Int)) := by
  refine ⟨decide (9223372036854775808 ≤ x), x % 9223372036854775808, ?_, ?_⟩
  · unfold keyI
    by_cases h : 9223372036854775808 ≤ x
    · rw [if_pos h]; simp [h]
    · rw [if_neg h]; simp [h]; omega
  · rw [val_fin hf]
    by_cases h : 9223372036854775808 ≤ x
    · have : x / 9223372036854775808 % 2 = 1 := by omega
      rw [this]; simp [h]
    · have : x / 9223372036854775808 % 2 = 0 := by omega
      rw [this]; simp [h]
theorem key_lt {x y : Nat} (hx : x < 18446744073709551616) (hy : y < 18446744073709551616) (fx : isFin x) (fy : isFin y) : keyI x < keyI y ↔ val x < val y := by
  obtain ⟨s, R, e1, e2⟩ := val_key hx fx
  obtain ⟨t, S, e3, e4⟩ := val_key hy fy
  rw [e1, e2, e3, e4]
  have hp : ∀ {A B : Nat}, A < B → rv A < rv B := fun h => rv_mono h
  have h0 : ∀ A : Nat, A = 0 ∨ 0 < rv A := fun A => by
    rcases Nat.eq_zero_or_pos A with h | h
    · exact .inl h
    · exact .inr (by have := hp h; rw [rv_zero'] at this; exact this)
  have hR := h0 R
  have hS := h0 S
  have hz := rv_zero'
  rcases Nat.lt_trichotomy R S with h | h | h
  · have := hp h
    cases s <;> cases t <;> simp <;> omega
  · subst h
    rcases hR with rfl | hR
    · cases s <;> cases t <;> simp [hz]
    · have : 0 < R := by
        rcases Nat.eq_zero_or_pos R with h | h
        · subst h; rw [hz] at hR; omega
        · exact h
      cases s <;> cases t <;> simp <;> omega
  · have := hp h
    cases s <;> cases t <;> simp <;> omega
theorem key_sgz {x y : Nat} (hx : x < 18446744073709551616) (hy : y < 18446744073709551616) (fx : isFin x) (fy : isFin y) : sgz (keyI x - keyI y) = sgz (val x - val y) := by
  have h1 := key_lt hx hy fx fy
  have h2 := key_lt hy hx fy fx
  unfold sgz
  repeat' split
  all_goals first | rfl | omega
/-- The bits, 0's all noughts. -/
def normN (x : Nat) : Nat := if x = 9223372036854775808 then 0 else x
theorem key_norm {x y : Nat} (hx : x < 18446744073709551616) (hy : y < 18446744073709551616) : keyI x = keyI y ↔ normN x = normN y := by
  unfold keyI normN
  repeat' split
  all_goals omega
theorem odd_unique {m j n k : Nat} (hm : m % 2 = 1) (hn : n % 2 = 1) (h : m * 2 ^ j = n * 2 ^ k) : m = n ∧ j = k := by
  rcases Nat.lt_trichotomy j k with hj | hj | hj
  · exfalso
    obtain ⟨d, rfl⟩ : ∃ d, k = j + 1 + d := ⟨k - j - 1, by omega⟩
    rw [show 2 ^ (j + 1 + d) = 2 ^ d * 2 * 2 ^ j by rw [← Nat.pow_succ, ← Nat.pow_add]; congr 1; omega, ← Nat.mul_assoc] at h
    have := Nat.eq_of_mul_eq_mul_right (Nat.two_pow_pos j) h
    rw [← Nat.mul_assoc] at this
    omega
  · subst hj
    exact ⟨Nat.eq_of_mul_eq_mul_right (Nat.two_pow_pos j) h, rfl⟩
  · exfalso
    obtain ⟨d, rfl⟩ : ∃ d, j = k + 1 + d := ⟨j - k - 1, by omega⟩
    rw [show 2 ^ (k + 1 + d) = 2 ^ d * 2 * 2 ^ k by rw [← Nat.pow_succ, ← Nat.pow_add]; congr 1; omega, ← Nat.mul_assoc] at h
    have := Nat.eq_of_mul_eq_mul_right (Nat.two_pow_pos k) h
    rw [← Nat.mul_assoc] at this
    omega
theorem sgz_three (a b c : Int) : (sgz (a - b) < 0 ∨ sgz (b - c) < 0 ∨ 0 ≤ sgz (a - c)) ∧ (0 < sgz (a - b) ∨ 0 < sgz (b - c) ∨ sgz (a - c) ≤ 0) := by
  unfold sgz
  constructor <;> (repeat' split) <;> omega
theorem sgz_range (a : Int) : -1 ≤ sgz a ∧ sgz a ≤ 1 := by unfold sgz; repeat' split <;> omega
theorem sgz_zero (a : Int) : sgz a = 0 ↔ a = 0 := by unfold sgz; repeat' split <;> omega
end Go.Proofs.YtmkpeihcchdjcaaDoor
