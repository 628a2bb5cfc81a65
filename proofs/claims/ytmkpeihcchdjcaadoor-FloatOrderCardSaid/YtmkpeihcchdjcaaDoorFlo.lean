/- Floats of 64 bits, in whole numbers: what reading and rounding come to. No program in sight. -/
import Ieee.Arith
set_option linter.unusedVariables false
set_option linter.unusedSimpArgs false
namespace Go.Proofs.YtmkpeihcchdjcaaDoor

theorem dblSign : Ieee.double.signWeight = 9223372036854775808 := by decide
theorem dblBin : Ieee.double.binade = 4503599627370496 := by decide
theorem dblInf : Ieee.double.infRung = 9218868437227405312 := by decide
theorem dblLeast : Ieee.double.leastPlace = -1074 := by decide
theorem dblFrac : Ieee.double.fractionBits = 52 := by decide

/-- What a rung counts, in units of 2^-1074. -/
def rv (r : Nat) : Nat := if r < 4503599627370496 then r else (4503599627370496 + r % 4503599627370496) * 2 ^ (r / 4503599627370496 - 1)
/-- A datum's number, in units of 2^-1074 (of places from -1074 on). -/
def dval : Ieee.Datum → Int
  | .number s m e => if s then -((m * 2 ^ (e + 1074).toNat : Nat) : Int) else ((m * 2 ^ (e + 1074).toNat : Nat) : Int)
  | _ => 0
/-- Is a word that of a finite number? -/
def isFin (x : Nat) : Prop := x % 9223372036854775808 < 9218868437227405312
def val (x : Nat) : Int := dval (Ieee.double.read x)

theorem read_fin {x : Nat} (h : isFin x) : ∃ m e, Ieee.double.read x = .number (x / 9223372036854775808 % 2 == 1) m e ∧ -1074 ≤ e ∧ m * 2 ^ (e + 1074).toNat = rv (x % 9223372036854775808) := by
  unfold isFin at h
  unfold Ieee.Format.read
  simp only [dblSign, dblBin, dblInf, dblLeast]
  unfold rv
  by_cases h1 : x % 9223372036854775808 < 4503599627370496
  · rw [if_pos h1, if_pos h1]
    exact ⟨_, _, rfl, by omega, by simp⟩
  · rw [if_neg h1, if_neg h1, if_pos h]
    refine ⟨_, _, rfl, by omega, ?_⟩
    congr 2
    omega
theorem val_fin {x : Nat} (h : isFin x) : val x = if (x / 9223372036854775808 % 2 == 1) then -(rv (x % 9223372036854775808) : Int) else (rv (x % 9223372036854775808) : Int) := by
  obtain ⟨m, e, hr, he, hm⟩ := read_fin h
  unfold val
  rw [hr]
  simp only [dval]
  rw [hm]
theorem val_abs {x : Nat} (h : isFin x) : (val x).natAbs = rv (x % 9223372036854775808) := by
  rw [val_fin h]
  split <;> simp
theorem read_inf {x : Nat} (h : x % 9223372036854775808 = 9218868437227405312) : Ieee.double.read x = .infinity (x / 9223372036854775808 % 2 == 1) := by
  unfold Ieee.Format.read
  simp only [dblSign, dblBin, dblInf, dblLeast]
  rw [if_neg (by omega), if_neg (by omega), if_pos h]
theorem read_nan {x : Nat} (h : 9218868437227405312 < x % 9223372036854775808) : ∃ f, Ieee.double.read x = .nan (x / 9223372036854775808 % 2 == 1) f := by
  unfold Ieee.Format.read
  simp only [dblSign, dblBin, dblInf, dblLeast]
  rw [if_neg (by omega), if_neg (by omega), if_neg (by omega)]
  exact ⟨_, rfl⟩

/-- Rounded to a whole number: at most half a unit off. -/
theorem cut_zero (neg : Bool) (n : Nat) : Ieee.Toward.even.cut neg n 0 = n := by
  unfold Ieee.Toward.cut
  simp [Nat.mod_one]
theorem cut_near (neg : Bool) (n drop : Nat) (hd : 0 < drop) :
    2 * (Ieee.Toward.even.cut neg n drop * 2 ^ drop) ≤ 2 * n + 2 ^ drop ∧ 2 * n ≤ 2 * (Ieee.Toward.even.cut neg n drop * 2 ^ drop) + 2 ^ drop ∧ (Ieee.Toward.even.cut neg n drop = n / 2 ^ drop ∨ Ieee.Toward.even.cut neg n drop = n / 2 ^ drop + 1) := by
  by_cases hbig : n.log2 + 2 < drop
  · have hn : n < 2 ^ (n.log2 + 1) := Nat.lt_log2_self
    have h1 : (2 : Nat) ^ (n.log2 + 2) = 2 * 2 ^ (n.log2 + 1) := by rw [Nat.pow_succ, Nat.mul_comm]
    have h2 : (2 : Nat) ^ (n.log2 + 2) ≤ 2 ^ drop := Nat.pow_le_pow_right (by omega) (by omega)
    have hc : Ieee.Toward.even.cut neg n drop = 0 := by
      unfold Ieee.Toward.cut
      simp only [Nat.min_eq_right (Nat.le_of_lt hbig), Nat.one_shiftLeft]
      rw [Nat.div_eq_of_lt (by omega), Nat.mod_eq_of_lt (by omega)]
      have e1 : decide (2 ^ (n.log2 + 2) < 2 * n) = false := by simp; omega
      have e2 : (2 ^ (n.log2 + 2) == 2 * n) = false := by simp; omega
      simp [e1]
    rw [hc, Nat.div_eq_of_lt (by omega)]
    refine ⟨by omega, by omega, .inl rfl⟩
  · have hmin : min drop (n.log2 + 2) = drop := Nat.min_eq_left (by omega)
    have hdm := Nat.div_add_mod n (2 ^ drop)
    have hml := Nat.mod_lt n (Nat.two_pow_pos drop)
    have hc : Ieee.Toward.even.cut neg n drop = n / 2 ^ drop + (decide (2 ^ drop < 2 * (n % 2 ^ drop)) || (2 ^ drop == 2 * (n % 2 ^ drop) && n / 2 ^ drop % 2 == 1)).toNat := by
      unfold Ieee.Toward.cut
      simp only [hmin, Nat.one_shiftLeft]
    rw [hc]
    rw [Nat.mul_comm] at hdm
    generalize n / 2 ^ drop = q at *
    generalize n % 2 ^ drop = r at *
    generalize 2 ^ drop = g at *
    by_cases c1 : g < 2 * r
    · simp only [c1, decide_true, Bool.true_or, Bool.toNat_true, Nat.add_mul, Nat.one_mul]
      refine ⟨by omega, by omega, .inr trivial⟩
    · by_cases c2 : g = 2 * r
      · cases hq : (q % 2 == 1)
        · simp only [c1, decide_false, Bool.false_or, Bool.and_false, Bool.toNat_false, Nat.add_zero]
          refine ⟨by omega, by omega, .inl trivial⟩
        · have : (g == 2 * r) = true := by simp [c2]
          simp only [c1, this, decide_false, Bool.false_or, Bool.and_true, Bool.toNat_true, Nat.add_mul, Nat.one_mul]
          refine ⟨by omega, by omega, .inr trivial⟩
      · have : (g == 2 * r) = false := by simp [c2]
        simp only [c1, this, decide_false, Bool.false_or, Bool.false_and, Bool.toNat_false, Nat.add_zero]
        refine ⟨by omega, by omega, .inl trivial⟩

theorem rv_of {L k : Nat} (h1 : k ≤ 9007199254740992) (h2 : L = 0 ∨ 4503599627370496 ≤ k) : rv (L * 4503599627370496 + k) = k * 2 ^ L := by
  unfold rv
  by_cases h : k < 4503599627370496
  · obtain rfl : L = 0 := by omega
    rw [if_pos (by omega)]
    omega
  · rw [if_neg (by omega)]
    by_cases h3 : k = 9007199254740992
    · subst h3
      have e1 : (L * 4503599627370496 + 9007199254740992) % 4503599627370496 = 0 := by omega
      have e2 : (L * 4503599627370496 + 9007199254740992) / 4503599627370496 - 1 = L + 1 := by omega
      rw [e1, e2, Nat.pow_succ]
      omega
    · have e1 : (L * 4503599627370496 + k) % 4503599627370496 = k - 4503599627370496 := by omega
      have e2 : (L * 4503599627370496 + k) / 4503599627370496 - 1 = L := by omega
      have e3 : 4503599627370496 + (k - 4503599627370496) = k := by omega
      rw [e1, e2, e3]

/-- WHAT ROUNDING IS: the place L of the last digit that is kept, what is kept, and how near that is. -/
theorem nearest_spec (neg : Bool) (mag : Nat) (place : Int) (hm : 0 < mag) :
    ∃ L k : Nat, Ieee.double.nearest neg mag place = Ieee.double.word neg (min (L * 4503599627370496 + k) 9218868437227405312) ∧ rv (L * 4503599627370496 + k) = k * 2 ^ L ∧
      ((∃ s : Nat, place + 1074 = (L : Int) + s ∧ k = mag * 2 ^ s) ∨
       ∃ d : Nat, 0 < d ∧ place + 1074 + d = (L : Int) ∧ 2 * (k * 2 ^ d) ≤ 2 * mag + 2 ^ d ∧ 2 * mag ≤ 2 * (k * 2 ^ d) + 2 ^ d ∧ (L = 0 ∨ 2 ^ (d + 52) ≤ mag)) ∧
      (k ≤ 9007199254740992 ∧ (L = 0 ∨ 4503599627370496 ≤ k)) := by
  obtain ⟨g, hg⟩ : ∃ g, g = mag.log2 := ⟨_, rfl⟩
  have hlo : 2 ^ g ≤ mag := by rw [hg]; exact Nat.log2_self_le (by omega)
  have hhi : mag < 2 ^ (g + 1) := by rw [hg]; exact Nat.lt_log2_self
  have hlast : ∃ L : Nat, max (place + (mag.log2 : Int) - (Ieee.double.fractionBits : Int)) Ieee.double.leastPlace = (L : Int) - 1074 ∧ ((L : Int) = place + 1074 + g - 52 ∨ (L = 0 ∧ place + 1074 + g ≤ 52)) := by
    rw [dblFrac, dblLeast, ← hg]
    refine ⟨(max (place + g - 52) (-1074) + 1074).toNat, ?_, ?_⟩ <;> omega
  obtain ⟨L, hL, hcase⟩ := hlast
  have hn : ∀ k, Ieee.Toward.even.cut neg (mag <<< (place - ((L : Int) - 1074)).toNat) (((L : Int) - 1074) - place).toNat = k →
      Ieee.double.nearest neg mag place = Ieee.double.word neg (min (L * 4503599627370496 + k) 9218868437227405312) := by
    intro k hk
    unfold Ieee.Format.nearest
    rw [if_neg (by omega)]
    have e : ((L : Int) - 1074 - -1074).toNat = L := by omega
    simp only [hL]
    simp only [hk, dblBin, dblInf, dblLeast]
    rw [e]
  by_cases ht : (L : Int) ≤ place + 1074
  · obtain ⟨s, hs⟩ : ∃ s : Nat, place + 1074 = (L : Int) + s := ⟨(place + 1074 - L).toNat, by omega⟩
    have hk := hn (mag * 2 ^ s) (by
      have e1 : (place - ((L : Int) - 1074)).toNat = s := by omega
      have e2 : (((L : Int) - 1074) - place).toNat = 0 := by omega
      rw [e1, e2, cut_zero, Nat.shiftLeft_eq])
    have key : mag * 2 ^ s ≤ 9007199254740992 ∧ (L = 0 ∨ 4503599627370496 ≤ mag * 2 ^ s) := by
      refine ⟨?_, ?_⟩
      · have h1 : mag * 2 ^ s < 2 ^ (g + 1) * 2 ^ s := Nat.mul_lt_mul_of_pos_right hhi (Nat.two_pow_pos s)
        rw [← Nat.pow_add] at h1
        have h2 : (2 : Nat) ^ (g + 1 + s) ≤ 2 ^ 53 := Nat.pow_le_pow_right (by omega) (by omega)
        have h3 : (2 : Nat) ^ 53 = 9007199254740992 := by decide
        omega
      · rcases hcase with h | ⟨h, _⟩
        · refine .inr ?_
          have h1 : 2 ^ g * 2 ^ s ≤ mag * 2 ^ s := Nat.mul_le_mul_right _ hlo
          rw [← Nat.pow_add] at h1
          have e : g + s = 52 := by omega
          rw [e] at h1
          have h3 : (2 : Nat) ^ 52 = 4503599627370496 := by decide
          omega
        · exact .inl h
    exact ⟨L, mag * 2 ^ s, hk, rv_of key.1 key.2, .inl ⟨s, hs, rfl⟩, key⟩
  · obtain ⟨d, hd⟩ : ∃ d : Nat, place + 1074 + d = (L : Int) := ⟨(L - (place + 1074)).toNat, by omega⟩
    have hd0 : 0 < d := by omega
    have e1 : (place - ((L : Int) - 1074)).toNat = 0 := by omega
    have e2 : (((L : Int) - 1074) - place).toNat = d := by omega
    obtain ⟨k, hkk⟩ : ∃ k, k = Ieee.Toward.even.cut neg mag d := ⟨_, rfl⟩
    have hk := hn k (by rw [e1, e2, Nat.shiftLeft_zero, hkk])
    obtain ⟨n1, n2, n3⟩ := cut_near neg mag d hd0
    rw [← hkk] at n1 n2 n3
    have hup : mag / 2 ^ d < 2 ^ 53 := by
      rw [Nat.div_lt_iff_lt_mul (Nat.two_pow_pos d), ← Nat.pow_add]
      exact Nat.lt_of_lt_of_le hhi (Nat.pow_le_pow_right (by omega) (by omega))
    have h53 : (2 : Nat) ^ 53 = 9007199254740992 := by decide
    have h52 : (2 : Nat) ^ 52 = 4503599627370496 := by decide
    rcases hcase with h | ⟨h, h'⟩
    · have hlow : 2 ^ (d + 52) ≤ mag := by
        have e : d + 52 = g := by omega
        rw [e]; exact hlo
      have hdiv : 2 ^ 52 ≤ mag / 2 ^ d := by
        rw [Nat.le_div_iff_mul_le (Nat.two_pow_pos d), ← Nat.pow_add, Nat.add_comm]
        exact hlow
      exact ⟨L, k, hk, rv_of (by omega) (.inr (by omega)), .inr ⟨d, hd0, hd, n1, n2, .inr hlow⟩, by omega, .inr (by omega)⟩
    · exact ⟨L, k, hk, rv_of (by omega) (.inl h), .inr ⟨d, hd0, hd, n1, n2, .inl h⟩, by omega, .inl h⟩

/-! ### What is written -/
theorem word_parts (neg : Bool) (R : Nat) (h : R ≤ 9218868437227405312) :
    Ieee.double.word neg R % 9223372036854775808 = R ∧ (Ieee.double.word neg R / 9223372036854775808 % 2 == 1) = neg ∧ Ieee.double.word neg R < 18446744073709551616 := by
  unfold Ieee.Format.word
  rw [dblSign]
  cases neg
  · have e1 : R % 9223372036854775808 = R := by omega
    have e2 : R / 9223372036854775808 % 2 = 0 := by omega
    simp only [Bool.false_eq_true, if_false, e1, e2]
    exact ⟨trivial, rfl, by omega⟩
  · have e1 : (9223372036854775808 + R) % 9223372036854775808 = R := by omega
    have e2 : (9223372036854775808 + R) / 9223372036854775808 % 2 = 1 := by omega
    simp only [if_true, e1, e2]
    exact ⟨trivial, rfl, by omega⟩
theorem write_zero (neg : Bool) (place : Int) : Ieee.double.write (.number neg 0 place) = Ieee.double.word neg 0 := by simp [Ieee.Format.write, Ieee.Format.nearest]
/-- Of a number written: its sign, that it is none of no number. -/
theorem write_parts (neg : Bool) (mag : Nat) (place : Int) (r : Nat) (hr : r = Ieee.double.write (.number neg mag place)) :
    r % 9223372036854775808 ≤ 9218868437227405312 ∧ (r / 9223372036854775808 % 2 == 1) = neg ∧ r < 18446744073709551616 := by
  subst hr
  by_cases hm : mag = 0
  · subst hm
    rw [write_zero]
    obtain ⟨h1, h2, h3⟩ := word_parts neg 0 (by omega)
    exact ⟨by omega, h2, h3⟩
  · obtain ⟨L, k, hn, _, _⟩ := nearest_spec neg mag place (by omega)
    have e0 : Ieee.double.write (.number neg mag place) = Ieee.double.word neg (min (L * 4503599627370496 + k) 9218868437227405312) := hn
    rw [e0]
    obtain ⟨h1, h2, h3⟩ := word_parts neg (min (L * 4503599627370496 + k) 9218868437227405312) (Nat.min_le_right _ _)
    exact ⟨by omega, h2, h3⟩
def K53 : Nat := 2 ^ 53
def c1074 : Nat := 1074
def K1074 : Nat := 2 ^ c1074
theorem K1074_pos : 0 < K1074 := Nat.two_pow_pos c1074
/-- A number with a place from -1074 on, written: the same to one part in 2^53. -/
theorem write_near {neg : Bool} {mag : Nat} {place : Int} {r : Nat} (hr : r = Ieee.double.write (.number neg mag place)) (hp : -1074 ≤ place) (hf : isFin r) :
    ∃ y : Nat, val r = (if neg then -(y : Int) else (y : Int)) ∧ K53 * y ≤ K53 * (mag * 2 ^ (place + 1074).toNat) + mag * 2 ^ (place + 1074).toNat ∧ K53 * (mag * 2 ^ (place + 1074).toNat) ≤ K53 * y + mag * 2 ^ (place + 1074).toNat := by
  have hparts := write_parts neg mag place r hr
  refine ⟨rv (r % 9223372036854775808), by rw [val_fin hf, hparts.2.1], ?_⟩
  subst hr
  by_cases hm : mag = 0
  · subst hm
    have : rv (Ieee.double.write (.number neg 0 place) % 9223372036854775808) = 0 := by
      rw [write_zero, (word_parts neg 0 (by omega)).1]
      rfl
    rw [this]
    simp
  · obtain ⟨L, k, hn, hrv, hcase, _⟩ := nearest_spec neg mag place (by omega)
    have e0 : Ieee.double.write (.number neg mag place) = Ieee.double.word neg (min (L * 4503599627370496 + k) 9218868437227405312) := hn
    have hw := (word_parts neg (min (L * 4503599627370496 + k) 9218868437227405312) (Nat.min_le_right _ _)).1
    unfold isFin at hf
    rw [e0, hw] at hf
    rw [e0, hw]
    have e1 : min (L * 4503599627370496 + k) 9218868437227405312 = L * 4503599627370496 + k := by
      clear hn e0 hw hcase hrv
      omega
    rw [e1, hrv]
    rcases hcase with ⟨s, hs, hk⟩ | ⟨d, hd0, hd, n1, n2, n3⟩
    · have e2 : (place + 1074).toNat = L + s := by omega
      rw [e2, hk, Nat.pow_add, Nat.mul_assoc, Nat.mul_comm (2 ^ s)]
      exact ⟨Nat.le_add_right _ _, Nat.le_add_right _ _⟩
    · obtain ⟨t, ht⟩ : ∃ t : Nat, place + 1074 = t := ⟨(place + 1074).toNat, by omega⟩
      have e2 : (place + 1074).toNat = t := by omega
      have e3 : L = t + d := by omega
      rw [e2]
      rcases n3 with h | h
      · omega
      · have a1 : 2 * (k * 2 ^ L) ≤ 2 * (mag * 2 ^ t) + 2 ^ L := by
          have := Nat.mul_le_mul_right (2 ^ t) n1
          rw [e3, Nat.pow_add, Nat.mul_comm (2 ^ t)]
          simp only [Nat.add_mul, Nat.mul_assoc] at this ⊢
          exact this
        have a2 : 2 * (mag * 2 ^ t) ≤ 2 * (k * 2 ^ L) + 2 ^ L := by
          have := Nat.mul_le_mul_right (2 ^ t) n2
          rw [e3, Nat.pow_add, Nat.mul_comm (2 ^ t)]
          simp only [Nat.add_mul, Nat.mul_assoc] at this ⊢
          exact this
        have a3 : 2 ^ 52 * 2 ^ L ≤ mag * 2 ^ t := by
          have := Nat.mul_le_mul_right (2 ^ t) h
          rw [e3, ← Nat.pow_add]
          rw [← Nat.pow_add] at this
          have e4 : 52 + (t + d) = d + 52 + t := by omega
          rw [e4]
          exact this
        have h52 : (2 : Nat) ^ 52 = 4503599627370496 := by decide
        have h53 : K53 = 9007199254740992 := by decide
        rw [h52] at a3
        rw [h53]
        generalize 2 ^ L = b at *
        generalize k * b = y at *
        generalize mag * 2 ^ t = e at *
        omega

theorem val_write {neg : Bool} {mag : Nat} {place : Int} {r : Nat} (hr : r = Ieee.double.write (.number neg mag place)) (hf : isFin r) (hm : 0 < mag) :
    ∃ L k : Nat, val r = (if neg then -((k * 2 ^ L : Nat) : Int) else ((k * 2 ^ L : Nat) : Int)) ∧
      ((∃ s : Nat, place + 1074 = (L : Int) + s ∧ k = mag * 2 ^ s) ∨
       ∃ d : Nat, 0 < d ∧ place + 1074 + d = (L : Int) ∧ 2 * (k * 2 ^ d) ≤ 2 * mag + 2 ^ d ∧ 2 * mag ≤ 2 * (k * 2 ^ d) + 2 ^ d ∧ (L = 0 ∨ 2 ^ (d + 52) ≤ mag)) := by
  have hparts := write_parts neg mag place r hr
  subst hr
  obtain ⟨L, k, hn, hrv, hcase, _⟩ := nearest_spec neg mag place hm
  have e0 : Ieee.double.write (.number neg mag place) = Ieee.double.word neg (min (L * 4503599627370496 + k) 9218868437227405312) := hn
  have hw := (word_parts neg (min (L * 4503599627370496 + k) 9218868437227405312) (Nat.min_le_right _ _)).1
  refine ⟨L, k, ?_, hcase⟩
  have hv := val_fin hf
  rw [hparts.2.1] at hv
  rw [hv]
  unfold isFin at hf
  rw [e0, hw] at hf
  have e1 : min (L * 4503599627370496 + k) 9218868437227405312 = L * 4503599627370496 + k := by
    clear hn e0 hw hcase hrv hv hparts
    omega
  rw [e0, hw, e1, hrv]
theorem val_write_zero {neg : Bool} {place : Int} {r : Nat} (hr : r = Ieee.double.write (.number neg 0 place)) : val r = 0 := by
  have hw := word_parts neg 0 (by omega)
  have hf : isFin r := by
    unfold isFin
    rw [hr, write_zero, hw.1]
    omega
  rw [val_fin hf, hr, write_zero, hw.1]
  have : rv 0 = 0 := rfl
  rw [this]
  simp
/-- Of a product, written: how near what is kept is, whether it fits or not. -/
theorem kept_near {mag : Nat} {place : Int} {L k : Nat} (hp : -2148 ≤ place) (hcase : (∃ s : Nat, place + 1074 = (L : Int) + s ∧ k = mag * 2 ^ s) ∨
       ∃ d : Nat, 0 < d ∧ place + 1074 + d = (L : Int) ∧ 2 * (k * 2 ^ d) ≤ 2 * mag + 2 ^ d ∧ 2 * mag ≤ 2 * (k * 2 ^ d) + 2 ^ d ∧ (L = 0 ∨ 2 ^ (d + 52) ≤ mag)) :
    K53 * (k * 2 ^ L * K1074) ≤ K53 * (mag * 2 ^ (place + 2148).toNat) + mag * 2 ^ (place + 2148).toNat + 4503599627370496 * K1074 ∧
      K53 * (mag * 2 ^ (place + 2148).toNat) ≤ K53 * (k * 2 ^ L * K1074) + mag * 2 ^ (place + 2148).toNat + 4503599627370496 * K1074 := by
  have h53 : K53 = 9007199254740992 := by decide
  rcases hcase with ⟨s, hs, hk⟩ | ⟨d, hd0, hd, n1, n2, n3⟩
  · have e2 : (place + 2148).toNat = L + s + c1074 := by unfold c1074; omega
    have e3 : mag * 2 ^ (L + s + c1074) = k * 2 ^ L * K1074 := by
      rw [hk, Nat.pow_add, Nat.pow_add]
      unfold K1074
      simp only [Nat.mul_assoc, Nat.mul_left_comm]
    rw [e2, e3]
    exact ⟨Nat.le_trans (Nat.le_add_right _ _) (Nat.le_add_right _ _), Nat.le_trans (Nat.le_add_right _ _) (Nat.le_add_right _ _)⟩
  · obtain ⟨T, hT⟩ : ∃ T : Nat, (place + 2148).toNat = T := ⟨_, rfl⟩
    have e3 : d + T = L + c1074 := by unfold c1074; omega
    rw [hT]
    have a1 := Nat.mul_le_mul_right (2 ^ T) n1
    have a2 := Nat.mul_le_mul_right (2 ^ T) n2
    simp only [Nat.add_mul, Nat.mul_assoc, ← Nat.pow_add, e3] at a1 a2
    have e4 : k * 2 ^ L * K1074 = k * 2 ^ (L + c1074) := by rw [Nat.pow_add, Nat.mul_assoc]; rfl
    rw [e4, h53]
    have eK : (2 : Nat) ^ (L + c1074) = 2 ^ L * K1074 := by rw [Nat.pow_add]; rfl
    rcases n3 with h | h
    · subst h
      have eK0 : (2 : Nat) ^ (0 + c1074) = K1074 := by rw [Nat.zero_add]; rfl
      rw [eK0] at a1 a2 ⊢
      generalize mag * 2 ^ T = E at *
      generalize k * K1074 = Y at *
      generalize K1074 = K at *
      omega
    · have a3 := Nat.mul_le_mul_right (2 ^ T) h
      rw [← Nat.pow_add, show d + 52 + T = 52 + (L + c1074) by omega, Nat.pow_add 2 52] at a3
      have h52 : (2 : Nat) ^ 52 = 4503599627370496 := by decide
      rw [h52] at a3
      generalize mag * 2 ^ T = E at *
      generalize k * 2 ^ (L + c1074) = Y at *
      generalize (2 : Nat) ^ (L + c1074) = b at *
      generalize K1074 = K at *
      omega
/-- A product, written: the same to one part in 2^53, and half the least. -/
theorem write_near_mul {neg : Bool} {mag : Nat} {place : Int} {r : Nat} (hr : r = Ieee.double.write (.number neg mag place)) (hp : -2148 ≤ place) (hf : isFin r) :
    ∃ y : Nat, val r = (if neg then -(y : Int) else (y : Int)) ∧ K53 * (y * K1074) ≤ K53 * (mag * 2 ^ (place + 2148).toNat) + mag * 2 ^ (place + 2148).toNat + 4503599627370496 * K1074 ∧
      K53 * (mag * 2 ^ (place + 2148).toNat) ≤ K53 * (y * K1074) + mag * 2 ^ (place + 2148).toNat + 4503599627370496 * K1074 := by
  by_cases hm : mag = 0
  · subst hm
    refine ⟨0, by rw [val_write_zero hr]; simp, ?_, ?_⟩ <;> simp
  · obtain ⟨L, k, hv, hcase⟩ := val_write hr hf (by omega)
    refine ⟨k * 2 ^ L, hv, ?_⟩
    exact kept_near hp hcase

theorem rv_big' {e L k : Nat} (he : e = 2045) (h1 : k ≤ 9007199254740992) (h2 : L = 0 ∨ 4503599627370496 ≤ k) (h : 9218868437227405312 ≤ L * 4503599627370496 + k) : 9007199254740992 * 2 ^ e ≤ k * 2 ^ L := by
  by_cases hL : L = e
  · have hk : k = 9007199254740992 := by omega
    rw [hk, hL]
    exact Nat.le_refl _
  · obtain ⟨j, hj⟩ : ∃ j, L = e + 1 + j := ⟨L - (e + 1), by omega⟩
    have h3 : 4503599627370496 ≤ k := by omega
    have h4 : 4503599627370496 * (2 ^ (e + 1) * 1) ≤ k * (2 ^ (e + 1) * 2 ^ j) := Nat.mul_le_mul h3 (Nat.mul_le_mul_left _ (Nat.two_pow_pos j))
    rw [hj, Nat.pow_add 2 (e + 1) j]
    have h5 : (2 : Nat) ^ (e + 1) = 2 ^ e * 2 := Nat.pow_succ ..
    rw [h5] at h4 ⊢
    generalize (2 : Nat) ^ e = b at *
    generalize k * (b * 2 * 2 ^ j) = z at *
    omega
theorem rv_small' {e R : Nat} (he : e = 2045) (h : R < 9218868437227405312) : rv R ≤ 9007199254740992 * 2 ^ e := by
  unfold rv
  have hp : 0 < (2 : Nat) ^ e := Nat.two_pow_pos _
  split
  · generalize (2 : Nat) ^ e = b at *
    omega
  · have h1 : R / 4503599627370496 - 1 ≤ e := by omega
    exact Nat.mul_le_mul (by omega) (Nat.pow_le_pow_right (by omega) h1)
end Go.Proofs.YtmkpeihcchdjcaaDoor
