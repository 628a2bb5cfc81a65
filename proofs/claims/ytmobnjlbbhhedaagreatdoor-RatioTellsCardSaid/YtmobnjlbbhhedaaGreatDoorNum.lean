/- Plain arithmetic of digits: no program in sight. -/
set_option linter.unusedVariables false
set_option linter.unusedSimpArgs false
namespace Go.Proofs.YtmobnjlbbhhedaaGreatDoor

/-- The base of a limb. -/
def B64 : Nat := 18446744073709551616
/-- The base of the references' digits. -/
def B16 : Nat := 65536
theorem B64_eq : B64 = 18446744073709551616 := rfl
theorem B16_eq : B16 = 65536 := rfl
theorem B64_pos : 0 < B64 := by decide
theorem B16_pos : 0 < B16 := by decide

/-- The i-th digit of a number. -/
def dig (B X i : Nat) : Nat := X / B ^ i % B
/-- n is the least number of digits that X needs. -/
def IsLen (B X n : Nat) : Prop := X < B ^ n ∧ ∀ m, X < B ^ m → n ≤ m

theorem dig_lt {B : Nat} (hB : 0 < B) (X i : Nat) : dig B X i < B := Nat.mod_lt _ hB
theorem dig64_lt (X i : Nat) : dig B64 X i < 18446744073709551616 := dig_lt B64_pos X i
theorem dig16_lt (X i : Nat) : dig B16 X i < 65536 := dig_lt B16_pos X i
theorem dig_zero (B i : Nat) : dig B 0 i = 0 := by simp [dig]
theorem dig_ge {B X n i : Nat} (hB : 0 < B) (h : X < B ^ n) (hi : n ≤ i) : dig B X i = 0 := by
  unfold dig
  rw [Nat.div_eq_of_lt (Nat.lt_of_lt_of_le h (Nat.pow_le_pow_right hB hi)), Nat.zero_mod]

theorem IsLen.uniq {B X n m : Nat} (h : IsLen B X n) (k : IsLen B X m) : n = m := Nat.le_antisymm (h.2 _ k.1) (k.2 _ h.1)
theorem lt_pow_self' {B : Nat} (hB : 2 ≤ B) (X : Nat) : X < B ^ X := by
  induction X with
  | zero => simp
  | succ k ih =>
    rw [Nat.pow_succ]
    have : B ^ k * 2 ≤ B ^ k * B := Nat.mul_le_mul_left _ hB
    omega
theorem IsLen.exists {B : Nat} (hB : 2 ≤ B) (X : Nat) : ∃ n, IsLen B X n := by
  have : ∀ n, X < B ^ n → ∃ m, IsLen B X m := by
    intro n
    induction n using Nat.strongRecOn with
    | ind n ih =>
      intro h
      by_cases c : ∃ m, m < n ∧ X < B ^ m
      · obtain ⟨m, hm, hx⟩ := c
        exact ih m hm hx
      · exact ⟨n, h, fun m hm => by
          apply Classical.byContradiction
          intro hlt
          exact c ⟨m, by omega, hm⟩⟩
  exact this X (lt_pow_self' hB X)
theorem IsLen.zero (B : Nat) : IsLen B 0 0 := ⟨by simp, fun _ _ => Nat.zero_le _⟩
theorem IsLen.pos {B X n : Nat} (h : IsLen B X n) (hx : 0 < X) : 0 < n := by
  rcases Nat.eq_zero_or_pos n with rfl | h0
  · have := h.1; simp at this; omega
  · exact h0
theorem IsLen.le {B X n m : Nat} (h : IsLen B X n) (hx : X < B ^ m) : n ≤ m := h.2 m hx
/-- Where the highest of some digits isn't nought, they are just as many as it takes. -/
theorem IsLen.of_top {B X n : Nat} (hB : 0 < B) (h : X < B ^ (n + 1)) (ht : dig B X n ≠ 0) : IsLen B X (n + 1) := by
  refine ⟨h, fun m hm => ?_⟩
  apply Classical.byContradiction
  intro hlt
  exact ht (dig_ge hB hm (by omega))
/-- Where it is nought, one fewer do. -/
theorem lt_of_top {B X n : Nat} (hB : 0 < B) (h : X < B ^ (n + 1)) (ht : dig B X n = 0) : X < B ^ n := by
  unfold dig at ht
  rw [Nat.pow_succ] at h
  have h1 : X / B ^ n < B := by
    rw [Nat.div_lt_iff_lt_mul (Nat.pow_pos hB)]
    rw [Nat.mul_comm]; exact h
  rw [Nat.mod_eq_of_lt h1] at ht
  rcases Nat.div_eq_zero_iff.1 ht with h2 | h2
  · have := Nat.pow_pos (n := n) hB; omega
  · exact h2
theorem IsLen.top_ne {B X n : Nat} (hB : 0 < B) (h : IsLen B X (n + 1)) : dig B X n ≠ 0 := fun ht => by
  have := h.2 n (lt_of_top hB h.1 ht)
  omega
theorem mod_pow_succ' (B X k : Nat) : X % B ^ (k + 1) = X % B ^ k + dig B X k * B ^ k := by
  unfold dig
  rw [Nat.mod_pow_succ, Nat.mul_comm]

/-- A number is known by its digits. -/
theorem eq_of_dig {B X Y n : Nat} (hx : X < B ^ n) (hy : Y < B ^ n) (h : ∀ i, i < n → dig B X i = dig B Y i) : X = Y := by
  have : ∀ k, k ≤ n → X % B ^ k = Y % B ^ k := by
    intro k
    induction k with
    | zero => intro _; simp [Nat.mod_one]
    | succ k ih => intro hk; rw [mod_pow_succ', mod_pow_succ', ih (by omega), h k (by omega)]
  have := this n (Nat.le_refl _)
  rwa [Nat.mod_eq_of_lt hx, Nat.mod_eq_of_lt hy] at this

/-- How two numbers stand to each other. -/
def cmpN (X Y : Nat) : Int := if X < Y then -1 else if X = Y then 0 else 1
theorem cmpN_lt {X Y : Nat} (h : X < Y) : cmpN X Y = -1 := by simp [cmpN, h]
theorem cmpN_gt {X Y : Nat} (h : Y < X) : cmpN X Y = 1 := by unfold cmpN; rw [if_neg (by omega), if_neg (by omega)]
theorem cmpN_eq {X Y : Nat} (h : X = Y) : cmpN X Y = 0 := by simp [cmpN, h]
theorem cmpN_swap (X Y : Nat) : cmpN X Y = -cmpN Y X := by
  unfold cmpN
  repeat' split
  all_goals omega
theorem cmpN_range (X Y : Nat) : -1 ≤ cmpN X Y ∧ cmpN X Y ≤ 1 := by
  unfold cmpN
  repeat' split
  all_goals omega
theorem cmpN_neg (X Y : Nat) : cmpN X Y < 0 ↔ X < Y := by
  unfold cmpN
  repeat' split
  all_goals omega
theorem cmpN_nonneg (X Y : Nat) : 0 ≤ cmpN X Y ↔ Y ≤ X := by
  unfold cmpN
  repeat' split
  all_goals omega
theorem cmpN_zero (X Y : Nat) : cmpN X Y = 0 ↔ X = Y := by
  unfold cmpN
  repeat' split
  all_goals omega

theorem IsLen.lt_of_lt {B X Y n m : Nat} (h : IsLen B X n) (k : IsLen B Y m) (hl : n < m) : X < Y := by
  apply Classical.byContradiction
  intro hxy
  have := k.2 n (Nat.lt_of_le_of_lt (Nat.le_of_not_lt hxy) h.1)
  omega
/-- From the top down: the digits above being alike, the next ones decide. -/
theorem div_step (B X m : Nat) : X / B ^ m = X / B ^ (m + 1) * B + dig B X m := by
  unfold dig
  rw [Nat.pow_succ, ← Nat.div_div_eq_div_mul, Nat.mul_comm]
  exact (Nat.div_add_mod (X / B ^ m) B).symm
theorem lt_of_dig {B X Y m : Nat} (h : X / B ^ (m + 1) = Y / B ^ (m + 1)) (hd : dig B X m < dig B Y m) : X < Y := by
  have hx := div_step B X m
  have hy := div_step B Y m
  rw [h] at hx
  apply Classical.byContradiction
  intro hxy
  have := Nat.div_le_div_right (c := B ^ m) (Nat.le_of_not_lt hxy)
  omega
theorem eq_step {B X Y m : Nat} (h : X / B ^ (m + 1) = Y / B ^ (m + 1)) (hd : dig B X m = dig B Y m) : X / B ^ m = Y / B ^ m := by
  rw [div_step B X m, div_step B Y m, h, hd]
theorem div_pow_zero (B X : Nat) : X / B ^ 0 = X := by simp

/-- What is carried into digit k of a sum. -/
def cry (B X Y k : Nat) : Nat := (X % B ^ k + Y % B ^ k) / B ^ k
theorem cry_zero (B X Y : Nat) : cry B X Y 0 = 0 := by simp [cry, Nat.mod_one]
theorem cry_le {B : Nat} (hB : 0 < B) (X Y k : Nat) : cry B X Y k ≤ 1 := by
  unfold cry
  have hp := Nat.pow_pos (n := k) hB
  have h1 := Nat.mod_lt X hp
  have h2 := Nat.mod_lt Y hp
  have : (X % B ^ k + Y % B ^ k) / B ^ k < 2 := by rw [Nat.div_lt_iff_lt_mul hp]; omega
  omega
theorem sum_mod (B X Y k : Nat) : (X + Y) % B ^ k + cry B X Y k * B ^ k = X % B ^ k + Y % B ^ k := by
  unfold cry
  rw [Nat.add_mod]
  have := Nat.div_add_mod (X % B ^ k + Y % B ^ k) (B ^ k)
  rw [Nat.mul_comm] at this
  omega
theorem sum_all {B : Nat} (hB : 0 < B) (X Y k : Nat) :
    dig B X k + dig B Y k + cry B X Y k = dig B (X + Y) k + cry B X Y (k + 1) * B := by
  have h0 := sum_mod B X Y k
  have h1 := sum_mod B X Y (k + 1)
  rw [mod_pow_succ', mod_pow_succ', mod_pow_succ', Nat.pow_succ] at h1
  have hp := Nat.pow_pos (n := k) hB
  have e : (dig B X k + dig B Y k + cry B X Y k) * B ^ k = (dig B (X + Y) k + cry B X Y (k + 1) * B) * B ^ k := by
    have e1 : cry B X Y (k + 1) * (B ^ k * B) = cry B X Y (k + 1) * B * B ^ k := by rw [Nat.mul_comm (B ^ k) B, Nat.mul_assoc]
    rw [e1] at h1
    simp only [Nat.add_mul]
    omega
  exact Nat.eq_of_mul_eq_mul_right hp e
theorem sum_dig {B : Nat} (hB : 0 < B) (X Y k : Nat) : (dig B X k + dig B Y k + cry B X Y k) % B = dig B (X + Y) k := by
  rw [sum_all hB, Nat.add_mul_mod_self_right, Nat.mod_eq_of_lt (dig_lt hB _ _)]
theorem sum_cry {B : Nat} (hB : 0 < B) (X Y k : Nat) : (dig B X k + dig B Y k + cry B X Y k) / B = cry B X Y (k + 1) := by
  rw [sum_all hB, Nat.add_mul_div_right _ _ hB, Nat.div_eq_of_lt (dig_lt hB _ _), Nat.zero_add]
theorem dig_mod {B : Nat} (hB : 0 < B) (X k i : Nat) : dig B (X % B ^ k) i = if i < k then dig B X i else 0 := by
  by_cases h : i < k
  · rw [if_pos h]
    unfold dig
    have e : B ^ k = B ^ i * B ^ (k - i) := by rw [← Nat.pow_add]; congr 1; omega
    rw [e, Nat.mod_mul_right_div_self]
    have e2 : B ^ (k - i) = B * B ^ (k - i - 1) := by
      rw [Nat.mul_comm, ← Nat.pow_succ]; congr 1; omega
    rw [e2, Nat.mod_mul_right_mod]
  · rw [if_neg h]
    exact dig_ge hB (Nat.mod_lt _ (Nat.pow_pos hB)) (by omega)
theorem add_lt_pow {B X Y n m : Nat} (hB : 2 ≤ B) (hx : X < B ^ n) (hy : Y < B ^ m) : X + Y < B ^ (max n m + 1) := by
  have h1 := Nat.pow_le_pow_right (show 0 < B by omega) (Nat.le_max_left n m)
  have h2 := Nat.pow_le_pow_right (show 0 < B by omega) (Nat.le_max_right n m)
  have h3 : B ^ max n m * 2 ≤ B ^ max n m * B := Nat.mul_le_mul_left _ hB
  rw [Nat.pow_succ]
  omega

theorem dig_mod_succ {B : Nat} (hB : 0 < B) (S i j : Nat) : dig B (S % B ^ (i + 1)) j = if j = i then dig B S i else dig B (S % B ^ i) j := by
  rw [dig_mod hB, dig_mod hB]
  by_cases h : j = i
  · subst h; simp
  · rw [if_neg h]
    by_cases h1 : j < i
    · rw [if_pos h1, if_pos (by omega)]
    · rw [if_neg h1, if_neg (by omega)]
theorem mod_lt_pow {B : Nat} (hB : 0 < B) (S : Nat) {i n : Nat} (h : i ≤ n) : S % B ^ i < B ^ n :=
  Nat.lt_of_lt_of_le (Nat.mod_lt _ (Nat.pow_pos hB)) (Nat.pow_le_pow_right hB h)

/-- What is lent to digit k of a difference, the first being at least the second. -/
def lent (B X Y k : Nat) : Nat := if X % B ^ k < Y % B ^ k then 1 else 0
theorem lent_zero (B X Y : Nat) : lent B X Y 0 = 0 := by simp [lent, Nat.mod_one]
theorem lent_le (B X Y k : Nat) : lent B X Y k ≤ 1 := by unfold lent; split <;> omega
theorem sub_mod_aux {p x y z : Nat} (hx : x < p) (hy : y < p) (hz : z < p) (hs : x = (z + y) % p) : z + y = x + (if x < y then 1 else 0) * p := by
  by_cases hc : z + y < p
  · rw [Nat.mod_eq_of_lt hc] at hs
    rw [if_neg (by omega)]
    omega
  · rw [Nat.mod_eq_sub_mod (by omega), Nat.mod_eq_of_lt (by omega)] at hs
    rw [if_pos (by omega)]
    omega
theorem sub_mod {B : Nat} (hB : 0 < B) {X Y : Nat} (h : Y ≤ X) (k : Nat) : (X - Y) % B ^ k + Y % B ^ k = X % B ^ k + lent B X Y k * B ^ k := by
  have hp := Nat.pow_pos (n := k) hB
  have hs := Nat.add_mod (X - Y) Y (B ^ k)
  rw [Nat.sub_add_cancel h] at hs
  exact sub_mod_aux (Nat.mod_lt X hp) (Nat.mod_lt Y hp) (Nat.mod_lt (X - Y) hp) hs
theorem sub_all {B : Nat} (hB : 0 < B) {X Y : Nat} (h : Y ≤ X) (k : Nat) :
    dig B (X - Y) k + dig B Y k + lent B X Y k = dig B X k + lent B X Y (k + 1) * B := by
  have h0 := sub_mod hB h k
  have h1 := sub_mod hB h (k + 1)
  rw [mod_pow_succ', mod_pow_succ', mod_pow_succ', Nat.pow_succ] at h1
  have hp := Nat.pow_pos (n := k) hB
  have e : (dig B (X - Y) k + dig B Y k + lent B X Y k) * B ^ k = (dig B X k + lent B X Y (k + 1) * B) * B ^ k := by
    have e1 : lent B X Y (k + 1) * (B ^ k * B) = lent B X Y (k + 1) * B * B ^ k := by rw [Nat.mul_comm (B ^ k) B, Nat.mul_assoc]
    rw [e1] at h1
    simp only [Nat.add_mul]
    omega
  exact Nat.eq_of_mul_eq_mul_right hp e
theorem sub_dig {B : Nat} (hB : 0 < B) {X Y : Nat} (h : Y ≤ X) (k : Nat) : (dig B X k + B - dig B Y k - lent B X Y k) % B = dig B (X - Y) k := by
  have h0 := sub_all hB h k
  have h1 := dig_lt hB (X - Y) k
  have h2 := dig_lt hB Y k
  have h3 := lent_le B X Y (k + 1)
  rcases (by omega : lent B X Y (k + 1) = 0 ∨ lent B X Y (k + 1) = 1) with e | e
  · rw [e] at h0
    have : dig B X k + B - dig B Y k - lent B X Y k = dig B (X - Y) k + B := by omega
    rw [this, Nat.add_mod_right, Nat.mod_eq_of_lt h1]
  · rw [e] at h0
    have : dig B X k + B - dig B Y k - lent B X Y k = dig B (X - Y) k := by omega
    rw [this, Nat.mod_eq_of_lt h1]
theorem sub_lent {B : Nat} (hB : 0 < B) {X Y : Nat} (h : Y ≤ X) (k : Nat) : (if dig B X k < dig B Y k + lent B X Y k then 1 else 0) = lent B X Y (k + 1) := by
  have h0 := sub_all hB h k
  have h1 := dig_lt hB (X - Y) k
  have h3 := lent_le B X Y (k + 1)
  rcases (by omega : lent B X Y (k + 1) = 0 ∨ lent B X Y (k + 1) = 1) with e | e
  · rw [e] at h0 ⊢
    rw [if_neg (by omega)]
  · rw [e] at h0 ⊢
    rw [if_pos (by omega)]
end Go.Proofs.YtmobnjlbbhhedaaGreatDoor
