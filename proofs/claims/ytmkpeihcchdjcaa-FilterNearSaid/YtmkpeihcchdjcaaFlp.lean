/- Floats of 64 bits, in whole numbers: sums, differences, products, order. No program in sight. -/
import Derived.Test.YtmkpeihcchdjcaaFlo
set_option linter.unusedVariables false
set_option linter.unusedSimpArgs false
namespace Go.Proofs.Ytmkpeihcchdjcaa

theorem dval_number (s : Bool) (m : Nat) (e : Int) : dval (.number s m e) = if s then -((m * 2 ^ (e + 1074).toNat : Nat) : Int) else ((m * 2 ^ (e + 1074).toNat : Nat) : Int) := rfl
theorem signed_val (s : Bool) (m : Nat) (i b : Int) (hb : -1074 ≤ b) (hi : b ≤ i) : Ieee.signed s m (i - b).toNat * ((2 ^ (b + 1074).toNat : Nat) : Int) = dval (.number s m i) := by
  have e : m <<< (i - b).toNat * 2 ^ (b + 1074).toNat = m * 2 ^ (i + 1074).toNat := by
    rw [Nat.shiftLeft_eq, Nat.mul_assoc, ← Nat.pow_add]
    congr 2
    omega
  unfold Ieee.signed
  rw [dval_number]
  cases s
  · simp only [Bool.false_eq_true, if_false]
    rw [← Int.natCast_mul, e]
  · simp only [if_true]
    rw [Int.neg_mul, ← Int.natCast_mul, e]
theorem natAbs_mul_nat (a : Int) (b : Nat) : a.natAbs * b = (a * (b : Int)).natAbs := by rw [Int.natAbs_mul, Int.natAbs_natCast]

theorem near_of {neg : Bool} {y E : Nat} {S v : Int} (hv : v = if neg then -(y : Int) else (y : Int)) (hS : S = if neg then -(E : Int) else (E : Int)) :
    (v - S).natAbs = (y - E) + (E - y) ∧ S.natAbs = E := by
  cases neg
  · simp only [Bool.false_eq_true, if_false] at hv hS
    subst hv hS
    exact ⟨by omega, by omega⟩
  · simp only [if_true] at hv hS
    subst hv hS
    exact ⟨by omega, by omega⟩
theorem k53 : K53 = 9007199254740992 := by decide

theorem sum_near {s t : Bool} {m n : Nat} {i j : Int} {r : Nat} (hi : -1074 ≤ i) (hj : -1074 ≤ j)
    (h : ((Ieee.Datum.number s m i).sum (.number t n j)).map Ieee.double.write = some r) (hr : isFin r) :
    9007199254740992 * (val r - (dval (.number s m i) + dval (.number t n j))).natAbs ≤ (dval (.number s m i) + dval (.number t n j)).natAbs := by
  simp only [Ieee.Datum.sum, Option.map_some, Option.some.injEq] at h
  obtain ⟨b, hb⟩ : ∃ b, b = min i j := ⟨_, rfl⟩
  rw [← hb] at h
  obtain ⟨T, hT⟩ : ∃ T, T = Ieee.signed s m (i - b).toNat + Ieee.signed t n (j - b).toNat := ⟨_, rfl⟩
  rw [← hT] at h
  have hS : T * ((2 ^ (b + 1074).toNat : Nat) : Int) = dval (.number s m i) + dval (.number t n j) := by
    rw [hT, Int.add_mul, signed_val s m i b (by omega) (by omega), signed_val t n j b (by omega) (by omega)]
  obtain ⟨y, hv, n1, n2⟩ := write_near h.symm (by omega) hr
  rw [natAbs_mul_nat, hS] at n1 n2
  rw [k53] at n1 n2
  generalize dval (.number s m i) + dval (.number t n j) = S at *
  by_cases h0 : T = 0
  · subst h0
    rw [Int.zero_mul] at hS
    subst hS
    have hy : y = 0 := by simp at n1; omega
    subst hy
    have : val r = 0 := by rw [hv]; simp
    rw [this]
    simp
  · have hp := Nat.two_pow_pos (b + 1074).toNat
    have hsg : S = if (if T = 0 then s && t else decide (T < 0)) then -(S.natAbs : Int) else (S.natAbs : Int) := by
      rw [if_neg h0]
      by_cases hneg : T < 0
      · have : S < 0 := by rw [← hS]; exact Int.mul_neg_of_neg_of_pos hneg (by omega)
        simp [hneg]; omega
      · have : 0 ≤ S := by rw [← hS]; exact Int.mul_nonneg (by omega) (by omega)
        simp [hneg]; omega
    obtain ⟨e1, _⟩ := near_of hv hsg
    rw [e1]
    omega
theorem dval_opposite (d : Ieee.Datum) : dval d.opposite = -dval d := by
  cases d with
  | number s m e => cases s <;> simp [Ieee.Datum.opposite, dval]
  | infinity s => simp [Ieee.Datum.opposite, dval]
  | nan s f => simp [Ieee.Datum.opposite, dval]

theorem add_near {x y r : Nat} (hx : isFin x) (hy : isFin y) (h : Ieee.double.add x y = some r) (hr : isFin r) :
    9007199254740992 * (val r - (val x + val y)).natAbs ≤ (val x + val y).natAbs := by
  obtain ⟨m, i, ex, hi, _⟩ := read_fin hx
  obtain ⟨n, j, ey, hj, _⟩ := read_fin hy
  unfold Ieee.Format.add at h
  unfold val
  rw [ex, ey] at h ⊢
  exact sum_near hi hj h hr
theorem sub_near {x y r : Nat} (hx : isFin x) (hy : isFin y) (h : Ieee.double.sub x y = some r) (hr : isFin r) :
    9007199254740992 * (val r - (val x - val y)).natAbs ≤ (val x - val y).natAbs := by
  obtain ⟨m, i, ex, hi, _⟩ := read_fin hx
  obtain ⟨n, j, ey, hj, _⟩ := read_fin hy
  unfold Ieee.Format.sub at h
  unfold val
  rw [ex, ey] at h ⊢
  have h2 := sum_near hi hj h hr
  have e := dval_opposite (.number (y / 9223372036854775808 % 2 == 1) n j)
  simp only [Ieee.Datum.opposite] at e
  rw [e] at h2
  rw [Int.sub_eq_add_neg]
  exact h2
theorem mul_near {x y r : Nat} (hx : isFin x) (hy : isFin y) (h : Ieee.double.mul x y = some r) (hr : isFin r) :
    9007199254740992 * (val r * K1074 - val x * val y).natAbs ≤ (val x * val y).natAbs + 4503599627370496 * K1074 := by
  obtain ⟨m, i, ex, hi, _⟩ := read_fin hx
  obtain ⟨n, j, ey, hj, _⟩ := read_fin hy
  unfold Ieee.Format.mul at h
  have hvx : val x = dval (.number (x / 9223372036854775808 % 2 == 1) m i) := by unfold val; rw [ex]
  have hvy : val y = dval (.number (y / 9223372036854775808 % 2 == 1) n j) := by unfold val; rw [ey]
  rw [ex, ey] at h
  rw [hvx, hvy]
  generalize (x / 9223372036854775808 % 2 == 1) = s at *
  generalize (y / 9223372036854775808 % 2 == 1) = t at *
  simp only [Ieee.Datum.product, Option.map_some, Option.some.injEq] at h
  obtain ⟨z, hv, n1, n2⟩ := write_near_mul h.symm (by omega) hr
  have eE : m * n * 2 ^ (i + j + 2148).toNat = (m * 2 ^ (i + 1074).toNat) * (n * 2 ^ (j + 1074).toNat) := by
    have : (i + j + 2148).toNat = (i + 1074).toNat + (j + 1074).toNat := by omega
    rw [this, Nat.pow_add]
    simp only [Nat.mul_assoc, Nat.mul_left_comm]
  rw [eE, k53] at n1 n2
  obtain ⟨a, ha⟩ : ∃ a, a = m * 2 ^ (i + 1074).toNat := ⟨_, rfl⟩
  obtain ⟨b, hb⟩ : ∃ b, b = n * 2 ^ (j + 1074).toNat := ⟨_, rfl⟩
  rw [dval_number, dval_number, ← ha, ← hb]
  rw [← ha, ← hb] at n1 n2
  have hS : (if s then -(a : Int) else (a : Int)) * (if t then -(b : Int) else (b : Int)) = if (s ^^ t) then -((a * b : Nat) : Int) else ((a * b : Nat) : Int) := by
    cases s <;> cases t <;> simp [Int.neg_mul, Int.mul_neg]
  have hv' : val r * (K1074 : Int) = if (s ^^ t) then -((z * K1074 : Nat) : Int) else ((z * K1074 : Nat) : Int) := by
    rw [hv]
    split <;> simp [Int.neg_mul]
  obtain ⟨e1, e2⟩ := near_of hv' hS
  rw [e1, e2]
  generalize z * K1074 = Y at *
  generalize a * b = E at *
  generalize K1074 = K at *
  omega

/-! ### What is finite -/
def isNan (x : Nat) : Prop := 9218868437227405312 < x % 9223372036854775808
theorem tri (x : Nat) : isFin x ∨ x % 9223372036854775808 = 9218868437227405312 ∨ isNan x := by unfold isFin isNan; omega
theorem write_inf (s : Bool) : ¬ isFin (Ieee.double.write (.infinity s)) := by
  have h := (word_parts s 9218868437227405312 (by omega)).1
  have e : Ieee.double.write (.infinity s) = Ieee.double.word s 9218868437227405312 := by
    show Ieee.double.word s Ieee.double.infRung = _
    rw [dblInf]
  unfold isFin
  rw [e, h]
  omega
theorem sum_fin {d d' : Ieee.Datum} {r : Nat} (h : (d.sum d').map Ieee.double.write = some r) (hr : isFin r) : (∃ s m e, d = .number s m e) ∧ (∃ s m e, d' = .number s m e) := by
  cases d with
  | number s m e =>
    cases d' with
    | number t n j => exact ⟨⟨_, _, _, rfl⟩, ⟨_, _, _, rfl⟩⟩
    | infinity t =>
      simp only [Ieee.Datum.sum, Option.map_some, Option.some.injEq] at h
      subst h
      exact absurd hr (write_inf _)
    | nan t f => simp [Ieee.Datum.sum] at h
  | infinity s =>
    cases d' with
    | number t n j =>
      simp only [Ieee.Datum.sum, Option.map_some, Option.some.injEq] at h
      subst h
      exact absurd hr (write_inf _)
    | infinity t =>
      simp only [Ieee.Datum.sum] at h
      split at h
      · simp only [Option.map_some, Option.some.injEq] at h
        subst h
        exact absurd hr (write_inf _)
      · simp at h
    | nan t f => simp [Ieee.Datum.sum] at h
  | nan s f => cases d' <;> simp [Ieee.Datum.sum] at h
theorem product_fin {d d' : Ieee.Datum} {r : Nat} (h : (d.product d').map Ieee.double.write = some r) (hr : isFin r) : (∃ s m e, d = .number s m e) ∧ (∃ s m e, d' = .number s m e) := by
  cases d with
  | number s m e =>
    cases d' with
    | number t n j => exact ⟨⟨_, _, _, rfl⟩, ⟨_, _, _, rfl⟩⟩
    | infinity t =>
      simp only [Ieee.Datum.product] at h
      split at h
      · simp at h
      · simp only [Option.map_some, Option.some.injEq] at h
        subst h
        exact absurd hr (write_inf _)
    | nan t f => simp [Ieee.Datum.product] at h
  | infinity s =>
    cases d' with
    | number t n j =>
      simp only [Ieee.Datum.product] at h
      split at h
      · simp at h
      · simp only [Option.map_some, Option.some.injEq] at h
        subst h
        exact absurd hr (write_inf _)
    | infinity t =>
      simp only [Ieee.Datum.product, Option.map_some, Option.some.injEq] at h
      subst h
      exact absurd hr (write_inf _)
    | nan t f => simp [Ieee.Datum.product] at h
  | nan s f => cases d' <;> simp [Ieee.Datum.product] at h
theorem fin_of_number {x : Nat} {s : Bool} {m : Nat} {e : Int} (h : Ieee.double.read x = .number s m e) : isFin x := by
  rcases tri x with h1 | h1 | h1
  · exact h1
  · rw [read_inf h1] at h; cases h
  · obtain ⟨f, e⟩ := read_nan h1
    rw [e] at h; cases h
theorem add_fin {x y r : Nat} (h : Ieee.double.add x y = some r) (hr : isFin r) : isFin x ∧ isFin y := by
  obtain ⟨⟨_, _, _, h1⟩, ⟨_, _, _, h2⟩⟩ := sum_fin h hr
  exact ⟨fin_of_number h1, fin_of_number h2⟩
theorem opp_number {d : Ieee.Datum} {s : Bool} {m : Nat} {e : Int} (h : d.opposite = .number s m e) : d = .number (!s) m e := by
  cases d with
  | number s' m' e' => simp only [Ieee.Datum.opposite, Ieee.Datum.number.injEq] at h; obtain ⟨rfl, rfl, rfl⟩ := h; simp
  | infinity s' => simp [Ieee.Datum.opposite] at h
  | nan s' f => simp [Ieee.Datum.opposite] at h
theorem sub_fin {x y r : Nat} (h : Ieee.double.sub x y = some r) (hr : isFin r) : isFin x ∧ isFin y := by
  obtain ⟨⟨_, _, _, h1⟩, ⟨_, _, _, h2⟩⟩ := sum_fin h hr
  exact ⟨fin_of_number h1, fin_of_number (opp_number h2)⟩
theorem mul_fin {x y r : Nat} (h : Ieee.double.mul x y = some r) (hr : isFin r) : isFin x ∧ isFin y := by
  obtain ⟨⟨_, _, _, h1⟩, ⟨_, _, _, h2⟩⟩ := product_fin h hr
  exact ⟨fin_of_number h1, fin_of_number h2⟩
/-- A word without its sign. -/
theorem abs_read {x : Nat} (h : isFin x) : isFin (x % 9223372036854775808) ∧ val (x % 9223372036854775808) = ((val x).natAbs : Int) := by
  have hf : isFin (x % 9223372036854775808) := by unfold isFin at h ⊢; omega
  refine ⟨hf, ?_⟩
  rw [val_fin hf, val_abs h]
  have e1 : x % 9223372036854775808 / 9223372036854775808 % 2 = 0 := by omega
  have e2 : x % 9223372036854775808 % 9223372036854775808 = x % 9223372036854775808 := by omega
  rw [e1, e2]
  simp
theorem abs_fin {x : Nat} (h : isFin (x % 9223372036854775808)) : isFin x := by unfold isFin at h ⊢; omega

/-! ### How they stand to each other -/
theorem compare_mul (a b : Int) (k : Nat) (hk : 0 < k) : compare (a * (k : Int)) (b * (k : Int)) = compare a b := by
  have hk' : (0 : Int) < (k : Int) := by omega
  rcases Int.lt_trichotomy a b with h | h | h
  · have h2 := Int.mul_lt_mul_of_pos_right h hk'
    rw [Int.compare_eq_lt.2 h, Int.compare_eq_lt.2 h2]
  · subst h
    rw [Int.compare_eq_eq.2 rfl, Int.compare_eq_eq.2 rfl]
  · have h2 := Int.mul_lt_mul_of_pos_right h hk'
    rw [Int.compare_eq_gt.2 h, Int.compare_eq_gt.2 h2]
theorem order_fin {x y : Nat} (hx : isFin x) (hy : isFin y) : Ieee.double.order x y = some (compare (val x) (val y)) := by
  obtain ⟨m, i, ex, hi, _⟩ := read_fin hx
  obtain ⟨n, j, ey, hj, _⟩ := read_fin hy
  unfold Ieee.Format.order val
  rw [ex, ey]
  simp only [Ieee.Datum.order]
  congr 1
  rw [← signed_val _ m i (min i j) (by omega) (by omega), ← signed_val _ n j (min i j) (by omega) (by omega), compare_mul _ _ _ (Nat.two_pow_pos _)]
end Go.Proofs.Ytmkpeihcchdjcaa
