/- Plain arithmetic of digits, continued: digits put into a number; products; powers of two. -/
import Derived.Test.YtmobnjlbbhhedaaGreatDoorNum
set_option linter.unusedVariables false
set_option linter.unusedSimpArgs false
namespace Go.Proofs.YtmobnjlbbhhedaaGreatDoor

/-- R with the digit v at place p. -/
def put (B R p v : Nat) : Nat := R / B ^ (p + 1) * B ^ (p + 1) + v * B ^ p + R % B ^ p
theorem split_at (B R p : Nat) : R = R / B ^ (p + 1) * B ^ (p + 1) + dig B R p * B ^ p + R % B ^ p := by
  have h1 := Nat.div_add_mod R (B ^ (p + 1))
  have h2 := mod_pow_succ' B R p
  rw [Nat.mul_comm] at h1
  omega
theorem put_add (B R p v : Nat) : put B R p v + dig B R p * B ^ p = R + v * B ^ p := by
  have := split_at B R p
  unfold put
  omega
theorem low_lt {B R p v : Nat} (hB : 0 < B) (hv : v < B) : v * B ^ p + R % B ^ p < B ^ (p + 1) := by
  have h1 := Nat.mod_lt R (Nat.pow_pos (n := p) hB)
  have h2 : (v + 1) * B ^ p ≤ B * B ^ p := Nat.mul_le_mul_right _ hv
  rw [Nat.pow_succ, Nat.mul_comm (B ^ p) B]
  rw [Nat.add_mul] at h2
  omega
theorem put_div {B R p v : Nat} (hB : 0 < B) (hv : v < B) : put B R p v / B ^ (p + 1) = R / B ^ (p + 1) := by
  have h := low_lt (R := R) (p := p) hB hv
  unfold put
  rw [Nat.add_assoc, Nat.add_comm, Nat.add_mul_div_right _ _ (Nat.pow_pos hB), Nat.div_eq_of_lt h, Nat.zero_add]
theorem put_mod {B R p v : Nat} : put B R p v % B ^ p = R % B ^ p := by
  unfold put
  have e : R / B ^ (p + 1) * B ^ (p + 1) + v * B ^ p + R % B ^ p = R % B ^ p + (R / B ^ (p + 1) * B + v) * B ^ p := by
    rw [Nat.pow_succ, Nat.add_mul, Nat.mul_assoc, Nat.mul_comm B (B ^ p)]
    omega
  rw [e, Nat.add_mul_mod_self_right, Nat.mod_mod]
theorem put_same {B R p v : Nat} (hB : 0 < B) (hv : v < B) : dig B (put B R p v) p = v := by
  have h1 := mod_pow_succ' B (put B R p v) p
  have h2 : put B R p v % B ^ (p + 1) = v * B ^ p + R % B ^ p := by
    have h := low_lt (R := R) (p := p) hB hv
    unfold put
    rw [Nat.add_assoc, Nat.add_comm, Nat.add_mul_mod_self_right, Nat.mod_eq_of_lt h]
  rw [h2, put_mod] at h1
  have h3 : v * B ^ p = dig B (put B R p v) p * B ^ p := by omega
  exact (Nat.eq_of_mul_eq_mul_right (Nat.pow_pos hB) h3).symm
theorem dig_of_mod {B X Y p j : Nat} (hB : 0 < B) (h : X % B ^ p = Y % B ^ p) (hj : j < p) : dig B X j = dig B Y j := by
  have h1 := dig_mod hB X p j
  have h2 := dig_mod hB Y p j
  rw [if_pos hj] at h1 h2
  rw [← h1, ← h2, h]
theorem dig_div (B X q i : Nat) : dig B (X / B ^ q) i = dig B X (q + i) := by
  unfold dig
  rw [Nat.div_div_eq_div_mul, ← Nat.pow_add]
theorem dig_of_div {B X Y p j : Nat} (h : X / B ^ (p + 1) = Y / B ^ (p + 1)) (hj : p < j) : dig B X j = dig B Y j := by
  obtain ⟨d, rfl⟩ : ∃ d, j = p + 1 + d := ⟨j - (p + 1), by omega⟩
  rw [← dig_div, ← dig_div, h]
theorem dig_put {B R p v : Nat} (hB : 0 < B) (hv : v < B) (j : Nat) : dig B (put B R p v) j = if j = p then v else dig B R j := by
  rcases Nat.lt_trichotomy j p with h | h | h
  · rw [if_neg (by omega)]
    exact dig_of_mod hB put_mod h
  · subst h
    rw [if_pos rfl]
    exact put_same hB hv
  · rw [if_neg (by omega)]
    exact dig_of_div (put_div hB hv) h
theorem put_lt {B R p v n : Nat} (hB : 0 < B) (hv : v < B) (hp : p < n) (h : R < B ^ n) : put B R p v < B ^ n := by
  obtain ⟨d, rfl⟩ : ∃ d, n = p + 1 + d := ⟨n - (p + 1), by omega⟩
  rw [Nat.pow_add] at h ⊢
  have h1 := put_div (R := R) (p := p) hB hv
  have hpp := Nat.pow_pos (n := p + 1) hB
  have h2 : R / B ^ (p + 1) < B ^ d := by
    rw [Nat.div_lt_iff_lt_mul hpp, Nat.mul_comm]; exact h
  rw [← h1, Nat.div_lt_iff_lt_mul hpp, Nat.mul_comm] at h2
  exact h2
theorem put_top {B R p v : Nat} (hB : 0 < B) (h : R < B ^ p) : put B R p v = R + v * B ^ p := by
  have := put_add B R p v
  rw [dig_ge hB h (Nat.le_refl _), Nat.zero_mul] at this
  omega

/-- One step of a product: a digit times a digit, what stood there, what is carried. -/
theorem mul_step {B x y d c : Nat} (hx : x < B) (hy : y < B) (hd : d < B) (hc : c < B) :
    ∃ hi lo l1 c1 h1 l2 c2 c', hi = x * y / B ∧ lo = x * y % B ∧ l1 = (lo + d + 0) % B ∧ c1 = (lo + d + 0) / B ∧ h1 = hi + c1 ∧ h1 < B ∧ l2 = (l1 + c + 0) % B ∧ c2 = (l1 + c + 0) / B ∧ c' = h1 + c2 ∧ c' < B ∧ l2 < B ∧ l2 + c' * B = x * y + d + c := by
  have hB : 0 < B := by omega
  have h0 := Nat.div_add_mod (x * y) B
  have h1 := Nat.div_add_mod (x * y % B + d + 0) B
  have h2 := Nat.div_add_mod ((x * y % B + d + 0) % B + c + 0) B
  have hl := Nat.mod_lt ((x * y % B + d + 0) % B + c + 0) hB
  have hbig : x * y + d + c < B * B := by
    have e1 : x * y ≤ (B - 1) * (B - 1) := Nat.mul_le_mul (by omega) (by omega)
    obtain ⟨b, rfl⟩ : ∃ b, B = b + 1 := ⟨B - 1, by omega⟩
    simp only [Nat.add_sub_cancel] at e1
    rw [Nat.add_mul, Nat.mul_add]
    omega
  obtain ⟨hi, ehi⟩ : ∃ hi, hi = x * y / B := ⟨_, rfl⟩
  obtain ⟨c1, ec1⟩ : ∃ c1, c1 = (x * y % B + d + 0) / B := ⟨_, rfl⟩
  obtain ⟨c2, ec2⟩ : ∃ c2, c2 = ((x * y % B + d + 0) % B + c + 0) / B := ⟨_, rfl⟩
  rw [← ehi] at h0
  rw [← ec1] at h1
  rw [← ec2] at h2
  have hlt : hi + c1 + c2 < B := by
    apply Classical.byContradiction
    intro hn
    have : B * B ≤ B * (hi + c1 + c2) := Nat.mul_le_mul_left _ (by omega)
    simp only [Nat.mul_add] at this
    omega
  refine ⟨hi, x * y % B, (x * y % B + d + 0) % B, c1, hi + c1, ((x * y % B + d + 0) % B + c + 0) % B, c2, hi + c1 + c2, ehi, rfl, rfl, ec1, rfl, by omega, rfl, ec2, rfl, hlt, hl, ?_⟩
  rw [Nat.mul_comm (hi + c1 + c2) B]
  simp only [Nat.mul_add]
  omega

/-- The inner loop of a product, step by step. -/
theorem mul_inner {B X Y R c i j l2 c' : Nat} (h : R + c * B ^ (i + j) = X % B ^ i * Y + dig B X i * B ^ i * (Y % B ^ j))
    (hs : l2 + c' * B = dig B X i * dig B Y j + dig B R (i + j) + c) :
    put B R (i + j) l2 + c' * B ^ (i + (j + 1)) = X % B ^ i * Y + dig B X i * B ^ i * (Y % B ^ (j + 1)) := by
  have h1 := put_add B R (i + j) l2
  have h2 := congrArg (· * B ^ (i + j)) hs
  simp only [Nat.add_mul] at h2
  rw [mod_pow_succ', Nat.mul_add]
  have e1 : c' * B ^ (i + (j + 1)) = c' * B * B ^ (i + j) := by rw [← Nat.add_assoc, Nat.pow_succ, Nat.mul_assoc, Nat.mul_comm B]
  have e2 : dig B X i * B ^ i * (dig B Y j * B ^ j) = dig B X i * dig B Y j * B ^ (i + j) := by
    rw [Nat.pow_add]
    simp only [Nat.mul_comm, Nat.mul_left_comm, Nat.mul_assoc]
  rw [e1, e2]
  omega
theorem mul_outer {B X Y R c i n : Nat} (hY : Y < B ^ n) (h : R + c * B ^ (i + n) = X % B ^ i * Y + dig B X i * B ^ i * (Y % B ^ n)) :
    R + c * B ^ (i + n) = X % B ^ (i + 1) * Y := by
  rw [h, Nat.mod_eq_of_lt hY, mod_pow_succ', Nat.add_mul]
theorem mul_lt_pow {B X Y n m : Nat} (hx : X < B ^ n) (hy : Y < B ^ m) : X * Y < B ^ (n + m) := by
  rw [Nat.pow_add]
  exact Nat.mul_lt_mul'' hx hy

/-- What is carried into digit k of a product with P. -/
def low (B X P k : Nat) : Nat := X % B ^ k * P / B ^ k
theorem low_zero (B X P : Nat) : low B X P 0 = 0 := by simp [low, Nat.mod_one]
theorem low_lt' {B X P k : Nat} (hB : 0 < B) (hP : 0 < P) : low B X P k < P := by
  unfold low
  have hp := Nat.pow_pos (n := k) hB
  rw [Nat.div_lt_iff_lt_mul hp, Nat.mul_comm]
  exact Nat.mul_lt_mul_of_pos_left (Nat.mod_lt X hp) hP
theorem low_all {B : Nat} (hB : 0 < B) (X P k : Nat) : dig B X k * P + low B X P k = dig B (X * P) k + low B X P (k + 1) * B := by
  have hp := Nat.pow_pos (n := k) hB
  have a0 := Nat.div_add_mod (X % B ^ k * P) (B ^ k)
  have a1 := Nat.div_add_mod (X % B ^ (k + 1) * P) (B ^ (k + 1))
  have m0 : X % B ^ k * P % B ^ k = X * P % B ^ k := by rw [Nat.mod_mul_mod]
  have m1 : X % B ^ (k + 1) * P % B ^ (k + 1) = X * P % B ^ (k + 1) := by rw [Nat.mod_mul_mod]
  rw [m0] at a0
  rw [m1, mod_pow_succ' B (X * P) k, mod_pow_succ' B X k, Nat.add_mul] at a1
  have e : (dig B X k * P + low B X P k) * B ^ k = (dig B (X * P) k + low B X P (k + 1) * B) * B ^ k := by
    have e1 : low B X P (k + 1) * B * B ^ k = B ^ (k + 1) * low B X P (k + 1) := by rw [Nat.pow_succ]; simp only [Nat.mul_comm, Nat.mul_left_comm, Nat.mul_assoc]
    have e2 : dig B X k * B ^ k * P = dig B X k * P * B ^ k := by simp only [Nat.mul_comm, Nat.mul_left_comm, Nat.mul_assoc]
    have e3 : low B X P k * B ^ k = B ^ k * (X % B ^ k * P / B ^ k) := Nat.mul_comm _ _
    have e4 : B ^ (k + 1) * low B X P (k + 1) = B ^ (k + 1) * ((X % B ^ k + dig B X k * B ^ k) * P / B ^ (k + 1)) := by
      unfold low
      rw [mod_pow_succ' B X k]
    rw [Nat.add_mul (X % B ^ k)] at e4
    simp only [Nat.add_mul] at *
    omega
  exact Nat.eq_of_mul_eq_mul_right hp e
theorem low_dig {B : Nat} (hB : 0 < B) (X P k : Nat) : (dig B X k * P + low B X P k) % B = dig B (X * P) k := by
  rw [low_all hB, Nat.add_mul_mod_self_right, Nat.mod_eq_of_lt (dig_lt hB _ _)]
theorem low_next {B : Nat} (hB : 0 < B) (X P k : Nat) : (dig B X k * P + low B X P k) / B = low B X P (k + 1) := by
  rw [low_all hB, Nat.add_mul_div_right _ _ hB, Nat.div_eq_of_lt (dig_lt hB _ _), Nat.zero_add]

/-! ### Powers of two -/
theorem B64_two : B64 = 2 ^ 64 := rfl
theorem B16_two : B16 = 2 ^ 16 := rfl
theorem shl_mod (x s : Nat) (hs : s ≤ 64) : x * 2 ^ s % B64 = 2 ^ s * (x % 2 ^ (64 - s)) := by
  have e : B64 = 2 ^ s * 2 ^ (64 - s) := by rw [B64_two, ← Nat.pow_add]; congr 1; omega
  rw [e, Nat.mul_comm x, Nat.mul_mod_mul_left]
theorem shl_div (x s : Nat) (hs : s ≤ 64) : x * 2 ^ s / B64 = x / 2 ^ (64 - s) := by
  have e : B64 = 2 ^ s * 2 ^ (64 - s) := by rw [B64_two, ← Nat.pow_add]; congr 1; omega
  rw [e, Nat.mul_comm x, Nat.mul_div_mul_left _ _ (Nat.two_pow_pos s)]
theorem shl_or (x s l : Nat) (hl : l < 2 ^ s) (hs : s ≤ 64) : (x * 2 ^ s % B64) ||| l = x * 2 ^ s % B64 + l := by
  rw [shl_mod x s hs, Nat.two_pow_add_eq_or_of_lt hl]
/-- One limb of a number that is moved up by less than a limb. -/
theorem shl_limb (X s k : Nat) (hs : s < 64) :
    (dig B64 X k * 2 ^ s % B64) ||| low B64 X (2 ^ s) k = dig B64 (X * 2 ^ s) k ∧ dig B64 X k / 2 ^ (64 - s) = low B64 X (2 ^ s) (k + 1) := by
  have hl : low B64 X (2 ^ s) k < 2 ^ s := low_lt' B64_pos (Nat.two_pow_pos s)
  have h1 : dig B64 X k * 2 ^ s % B64 + low B64 X (2 ^ s) k < B64 := by
    rw [shl_mod _ s (by omega)]
    have e : B64 = 2 ^ s * 2 ^ (64 - s) := by rw [B64_two, ← Nat.pow_add]; congr 1; omega
    have h2 : 2 ^ s * (dig B64 X k % 2 ^ (64 - s) + 1) ≤ 2 ^ s * 2 ^ (64 - s) := Nat.mul_le_mul_left _ (Nat.mod_lt _ (Nat.two_pow_pos _))
    rw [← e, Nat.mul_add] at h2
    omega
  have h3 := Nat.div_add_mod (dig B64 X k * 2 ^ s) B64
  have h4 : dig B64 X k * 2 ^ s + low B64 X (2 ^ s) k = (dig B64 X k * 2 ^ s % B64 + low B64 X (2 ^ s) k) + (dig B64 X k * 2 ^ s / B64) * B64 := by
    rw [Nat.mul_comm B64] at h3
    omega
  refine ⟨?_, ?_⟩
  · rw [shl_or _ _ _ hl (by omega), ← low_dig B64_pos X (2 ^ s) k, h4, Nat.add_mul_mod_self_right, Nat.mod_eq_of_lt h1]
  · rw [← shl_div _ s (by omega), ← low_next B64_pos X (2 ^ s) k, h4, Nat.add_mul_div_right _ _ B64_pos, Nat.div_eq_of_lt h1, Nat.zero_add]
theorem dig_shift {B : Nat} (hB : 0 < B) (X q i : Nat) : dig B (X * B ^ q) (q + i) = dig B X i := by
  rw [← dig_div, Nat.mul_div_cancel _ (Nat.pow_pos hB)]
theorem dig_shift_low {B : Nat} (hB : 0 < B) (X q i : Nat) (h : i < q) : dig B (X * B ^ q) i = 0 := by
  have := dig_mod hB (X * B ^ q) q i
  rw [Nat.mul_mod_left, dig_zero, if_pos h] at this
  exact this.symm
theorem two_pow_split (q s : Nat) : 2 ^ (64 * q + s) = 2 ^ s * B64 ^ q := by
  rw [B64_two, Nat.pow_add, Nat.pow_mul, Nat.mul_comm]
theorem shl_top (X q s i : Nat) : dig B64 (X * 2 ^ (64 * q + s)) (q + i) = dig B64 (X * 2 ^ s) i := by
  rw [two_pow_split, ← Nat.mul_assoc, dig_shift B64_pos]
theorem shl_bottom (X q s i : Nat) (h : i < q) : dig B64 (X * 2 ^ (64 * q + s)) i = 0 := by
  rw [two_pow_split, ← Nat.mul_assoc]
  exact dig_shift_low B64_pos _ _ _ h
theorem shl_lt {X a q s : Nat} (h : X < B64 ^ a) (hs : s < 64) : X * 2 ^ (64 * q + s) < B64 ^ (q + (a + 1)) := by
  rw [two_pow_split, Nat.pow_add B64 q (a + 1), ← Nat.mul_assoc, Nat.mul_comm, Nat.pow_succ]
  refine Nat.mul_lt_mul_of_pos_left ?_ (Nat.pow_pos B64_pos)
  exact Nat.mul_lt_mul'' h (by rw [B64_two]; exact Nat.pow_lt_pow_right (by omega) hs)

/-- The digits of P below place i, those of Q from there on. -/
def mix (B P Q i : Nat) : Nat := P % B ^ i + Q / B ^ i * B ^ i
theorem mix_zero (B P Q : Nat) : mix B P Q 0 = Q := by simp [mix, Nat.mod_one]
theorem mix_mod {B : Nat} (P Q i : Nat) (hB : 0 < B) : mix B P Q i % B ^ i = P % B ^ i := by
  unfold mix
  rw [Nat.add_mul_mod_self_right, Nat.mod_mod]
theorem mix_div {B : Nat} (P Q i : Nat) (hB : 0 < B) : mix B P Q i / B ^ i = Q / B ^ i := by
  unfold mix
  rw [Nat.add_mul_div_right _ _ (Nat.pow_pos hB), Nat.div_eq_of_lt (Nat.mod_lt _ (Nat.pow_pos hB)), Nat.zero_add]
theorem dig_mix {B : Nat} (hB : 0 < B) (P Q i j : Nat) : dig B (mix B P Q i) j = if j < i then dig B P j else dig B Q j := by
  by_cases h : j < i
  · rw [if_pos h]
    exact dig_of_mod hB (mix_mod P Q i hB) h
  · rw [if_neg h]
    obtain ⟨d, rfl⟩ : ∃ d, j = i + d := ⟨j - i, by omega⟩
    rw [← dig_div, ← dig_div, mix_div P Q i hB]
theorem mix_next {B : Nat} (hB : 0 < B) (P Q i j : Nat) : dig B (mix B P Q (i + 1)) j = if j = i then dig B P i else dig B (mix B P Q i) j := by
  rw [dig_mix hB, dig_mix hB]
  by_cases h : j = i
  · subst h; simp
  · rw [if_neg h]
    by_cases h1 : j < i
    · rw [if_pos h1, if_pos (by omega)]
    · rw [if_neg h1, if_neg (by omega)]
theorem mix_lt {B P Q i n : Nat} (hB : 0 < B) (hi : i ≤ n) (hq : Q < B ^ n) : mix B P Q i < B ^ n := by
  obtain ⟨d, rfl⟩ : ∃ d, n = i + d := ⟨n - i, by omega⟩
  rw [Nat.pow_add] at hq ⊢
  have h1 : Q / B ^ i < B ^ d := by
    rw [Nat.div_lt_iff_lt_mul (Nat.pow_pos hB), Nat.mul_comm]; exact hq
  rw [← mix_div P Q i hB, Nat.div_lt_iff_lt_mul (Nat.pow_pos hB), Nat.mul_comm] at h1
  exact h1
theorem mix_all {B P Q n : Nat} (hB : 0 < B) (hp : P < B ^ n) (hq : Q < B ^ n) : mix B P Q n = P := by
  unfold mix
  rw [Nat.div_eq_of_lt hq, Nat.mod_eq_of_lt hp]
  omega
/-- One limb of a number that is moved down by less than a limb. -/
theorem shr_limb (A s k : Nat) (hs : s < 64) :
    dig B64 A k / 2 ^ s + dig B64 A (k + 1) * 2 ^ (64 - s) % B64 = dig B64 (A / 2 ^ s) k := by
  have e : B64 = 2 ^ s * 2 ^ (64 - s) := by rw [B64_two, ← Nat.pow_add]; congr 1; omega
  have hu : dig B64 (A / 2 ^ s) k = (A / B64 ^ k) / 2 ^ s % B64 := by
    unfold dig
    rw [Nat.div_div_eq_div_mul, Nat.div_div_eq_div_mul, Nat.mul_comm]
  have hd := div_step B64 A k
  rw [hu, hd]
  have h1 : (A / B64 ^ (k + 1) * B64 + dig B64 A k) / 2 ^ s = A / B64 ^ (k + 1) * 2 ^ (64 - s) + dig B64 A k / 2 ^ s := by
    have : A / B64 ^ (k + 1) * B64 = 2 ^ s * (A / B64 ^ (k + 1) * 2 ^ (64 - s)) := by
      rw [e]
      simp only [Nat.mul_left_comm]
    rw [this, Nat.mul_add_div (Nat.two_pow_pos s)]
  rw [h1]
  have h2 : dig B64 A (k + 1) * 2 ^ (64 - s) % B64 = A / B64 ^ (k + 1) * 2 ^ (64 - s) % B64 := by
    have hm : dig B64 A (k + 1) = A / B64 ^ (k + 1) % B64 := rfl
    rw [hm, Nat.mod_mul_mod]
  rw [h2]
  have h3 : dig B64 A k / 2 ^ s < 2 ^ (64 - s) := by
    rw [Nat.div_lt_iff_lt_mul (Nat.two_pow_pos s), Nat.mul_comm, ← e]
    exact dig_lt B64_pos A k
  have h4 : A / B64 ^ (k + 1) * 2 ^ (64 - s) % B64 = 2 ^ (64 - s) * (A / B64 ^ (k + 1) % 2 ^ s) := by
    rw [e, Nat.mul_comm (2 ^ s), Nat.mul_comm (A / _), Nat.mul_mod_mul_left]
  have h5 : 2 ^ (64 - s) * (A / B64 ^ (k + 1) % 2 ^ s) + dig B64 A k / 2 ^ s < B64 := by
    have := Nat.mul_le_mul_left (2 ^ (64 - s)) (Nat.mod_lt (A / B64 ^ (k + 1)) (Nat.two_pow_pos s))
    rw [Nat.succ_eq_add_one, Nat.mul_add, Nat.mul_comm (2 ^ (64 - s)) (2 ^ s), ← e] at this
    omega
  rw [Nat.add_mod, h4, Nat.mod_eq_of_lt (Nat.lt_of_le_of_lt (Nat.le_add_left _ _) h5), Nat.mod_eq_of_lt h5]
  omega
theorem shr_or (A s k : Nat) (hs : s < 64) :
    (dig B64 A k / 2 ^ s) ||| (dig B64 A (k + 1) * 2 ^ (64 - s) % B64) = dig B64 (A / 2 ^ s) k := by
  rw [← shr_limb A s k hs]
  have e : B64 = 2 ^ s * 2 ^ (64 - s) := by rw [B64_two, ← Nat.pow_add]; congr 1; omega
  have h3 : dig B64 A k / 2 ^ s < 2 ^ (64 - s) := by
    rw [Nat.div_lt_iff_lt_mul (Nat.two_pow_pos s), Nat.mul_comm, ← e]
    exact dig_lt B64_pos A k
  have h4 : dig B64 A (k + 1) * 2 ^ (64 - s) % B64 = 2 ^ (64 - s) * (dig B64 A (k + 1) % 2 ^ s) := by
    rw [e, Nat.mul_comm (2 ^ s), Nat.mul_comm (dig _ _ _), Nat.mul_mod_mul_left]
  rw [h4, Nat.or_comm, ← Nat.two_pow_add_eq_or_of_lt h3, Nat.add_comm]
theorem div_two_pow (X q s : Nat) : X / 2 ^ (64 * q + s) = X / B64 ^ q / 2 ^ s := by
  rw [two_pow_split, Nat.mul_comm, Nat.div_div_eq_div_mul]

/-! ### Limbs and digits of 16 bits -/
theorem B64_four : B64 = B16 ^ 4 := rfl
theorem B64_pow (n : Nat) : B64 ^ n = B16 ^ (4 * n) := by rw [B64_four, ← Nat.pow_mul]
/-- What is left of limb i behind k digits. -/
def dq (X i k : Nat) : Nat := dig B64 X i / B16 ^ k
theorem dq_zero (X i : Nat) : dq X i 0 = dig B64 X i := by simp [dq]
theorem dq_dig (X i k : Nat) (hk : k < 4) : dq X i k % 65536 = dig B16 X (4 * i + k) := by
  have h := dig_mod B16_pos (X / B64 ^ i) 4 k
  rw [if_pos hk, B64_pow, dig_div, ← B64_four] at h
  rw [← h]
  unfold dq dig
  rw [B64_pow]
  rfl
theorem dq_next (X i k : Nat) : dq X i k / 65536 = dq X i (k + 1) := by
  unfold dq
  rw [Nat.pow_succ, ← Nat.div_div_eq_div_mul]
  rfl
theorem dq_lt (X i k : Nat) : dq X i k < B64 := Nat.lt_of_le_of_lt (Nat.div_le_self _ _) (dig_lt B64_pos X i)
/-- The part of limb t that digits 4 * t + j and higher come to. -/
def lx (D i j : Nat) : Nat := D / B16 ^ (i + j) % B16 ^ (4 - j)
theorem lx_four (D i : Nat) : lx D i 4 = 0 := by simp [lx, Nat.mod_one]
theorem lx_next (D i j : Nat) (hj : j < 4) : lx D i j = lx D i (j + 1) * 65536 + dig B16 D (i + j) := by
  unfold lx
  have e : 4 - j = (4 - (j + 1)) + 1 := by omega
  have h := div_step B16 D (i + j)
  rw [e, Nat.pow_succ, h, Nat.mul_comm (B16 ^ (4 - (j + 1))) B16]
  have hd := dig_lt B16_pos D (i + j)
  generalize dig B16 D (i + j) = d at *
  rw [show i + j + 1 = i + (j + 1) by omega]
  generalize D / B16 ^ (i + (j + 1)) = Q
  generalize B16 ^ (4 - (j + 1)) = P
  rw [Nat.mod_mul, Nat.add_comm (Q * B16) d, Nat.add_mul_mod_self_right, Nat.mod_eq_of_lt hd, Nat.add_mul_div_right _ _ B16_pos, Nat.div_eq_of_lt hd, Nat.zero_add, Nat.add_comm, Nat.mul_comm]
  rfl
theorem lx_zero (D t : Nat) : lx D (4 * t) 0 = dig B64 D t := by
  unfold lx dig
  rw [B64_pow, ← B64_four]
  rfl
theorem lx_lt (D i j : Nat) (hj : j ≤ 4) : lx D i j < B16 ^ (4 - j) := Nat.mod_lt _ (Nat.pow_pos B16_pos)
theorem isLen_limbs_digits {D n t : Nat} (h : IsLen B16 D n) (h1 : n ≤ 4 * t) (h2 : 4 * t < n + 4) : IsLen B64 D t := by
  refine ⟨?_, fun m hm => ?_⟩
  · rw [B64_pow]
    exact Nat.lt_of_lt_of_le h.1 (Nat.pow_le_pow_right B16_pos h1)
  · rw [B64_pow] at hm
    have := h.2 _ hm
    omega
theorem isLen_digits_le {X n m : Nat} (h : X < B64 ^ n) (k : IsLen B16 X m) : m ≤ 4 * n := by
  rw [B64_pow] at h
  exact k.2 _ h
end Go.Proofs.YtmobnjlbbhhedaaGreatDoor
