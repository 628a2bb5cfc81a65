/- The sign of a difference of floats; a turn the other way round. -/
import Derived.Test.YtmkpeihcchdjcaaFltC
set_option linter.unusedVariables false
set_option linter.unusedSimpArgs false
namespace Go.Proofs.Ytmkpeihcchdjcaa
open Go.RowKit

theorem rv_pos {R : Nat} (h : 0 < R) : 0 < rv R := by
  unfold rv
  split
  · exact h
  · exact Nat.mul_pos (by omega) (Nat.two_pow_pos _)
theorem val_zero : val 0 = 0 := by decide
theorem signO_word (neg : Bool) (R : Nat) (h : R ≤ 9218868437227405312) : signO (Ieee.double.word neg R) = if R = 0 then 0 else if neg then -1 else 1 := by
  obtain ⟨h1, h2, _⟩ := word_parts neg R h
  by_cases hi : R < 9218868437227405312
  · have hf : isFin (Ieee.double.word neg R) := by unfold isFin; rw [h1]; exact hi
    have h0 : isFin 0 := by unfold isFin; decide
    unfold signO
    rw [order_fin hf h0, val_zero, val_fin hf, h1, h2]
    by_cases hR : R = 0
    · subst hR
      have : rv 0 = 0 := rfl
      rw [this]
      cases neg <;> rfl
    · have hp := rv_pos (show 0 < R by omega)
      rw [if_neg hR]
      cases neg
      · have e : compare (rv R : Int) 0 = .gt := Int.compare_eq_gt.2 (by omega)
        simp only [Bool.false_eq_true, if_false, e]
      · have e : compare (-(rv R : Int)) 0 = .lt := Int.compare_eq_lt.2 (by omega)
        simp only [if_true, e]
  · have e : R = 9218868437227405312 := by omega
    have hr := read_inf (x := Ieee.double.word neg R) (by omega)
    have h0 : Ieee.double.read 0 = .number false 0 (-1074) := by decide
    unfold signO Ieee.Format.order
    rw [hr, h2, h0, if_neg (by omega)]
    cases neg <;> simp [Ieee.Datum.order]
/-- Which way a number points. -/
def sgn (z : Int) : Int := if z < 0 then -1 else if z = 0 then 0 else 1
theorem sgn_neg (z : Int) : sgn (-z) = -sgn z := by unfold sgn; repeat' split <;> omega
theorem signO_write (neg : Bool) (mag : Nat) (place : Int) (hp : -1074 ≤ place) : signO (Ieee.double.write (.number neg mag place)) = if mag = 0 then 0 else if neg then -1 else 1 := by
  by_cases hm : mag = 0
  · subst hm
    rw [write_zero, signO_word _ _ (by omega)]
  · obtain ⟨L, k, hn, _, hcase, _⟩ := nearest_spec neg mag place (by omega)
    have e0 : Ieee.double.write (.number neg mag place) = Ieee.double.word neg (min (L * 4503599627370496 + k) 9218868437227405312) := hn
    have hne : min (L * 4503599627370496 + k) 9218868437227405312 ≠ 0 := by
      rcases hcase with ⟨s, hs, hk⟩ | ⟨d, hd0, hd, _⟩
      · have : 0 < k := by rw [hk]; exact Nat.mul_pos (by omega) (Nat.two_pow_pos _)
        clear hn e0
        omega
      · clear hn e0
        omega
    rw [e0, signO_word _ _ (Nat.min_le_right _ _), if_neg hne, if_neg hm]
/-- THE SIGN OF A DIFFERENCE is right. -/
theorem sub_sign {x y r : Nat} (hx : isFin x) (hy : isFin y) (h : Ieee.double.sub x y = some r) : signO r = sgn (val x - val y) := by
  obtain ⟨m, i, ex, hi, _⟩ := read_fin hx
  obtain ⟨n, j, ey, hj, _⟩ := read_fin hy
  unfold Ieee.Format.sub at h
  unfold val
  rw [ex, ey] at h ⊢
  generalize (x / 9223372036854775808 % 2 == 1) = s at *
  generalize (y / 9223372036854775808 % 2 == 1) = t at *
  simp only [Ieee.Datum.opposite, Ieee.Datum.sum, Option.map_some, Option.some.injEq] at h
  obtain ⟨b, hb⟩ : ∃ b, b = min i j := ⟨_, rfl⟩
  rw [← hb] at h
  obtain ⟨T, hT⟩ : ∃ T, T = Ieee.signed s m (i - b).toNat + Ieee.signed (!t) n (j - b).toNat := ⟨_, rfl⟩
  rw [← hT] at h
  have e := dval_opposite (.number t n j)
  simp only [Ieee.Datum.opposite] at e
  have hS : T * ((2 ^ (b + 1074).toNat : Nat) : Int) = dval (.number s m i) - dval (.number t n j) := by
    rw [hT, Int.add_mul, signed_val s m i b (by omega) (by omega), signed_val (!t) n j b (by omega) (by omega), e, Int.sub_eq_add_neg]
  rw [← hS, ← h, signO_write _ _ _ (by omega)]
  have hp := Nat.two_pow_pos (b + 1074).toNat
  unfold sgn
  rcases Int.lt_trichotomy T 0 with h0 | h0 | h0
  · have h1 := Int.mul_neg_of_neg_of_pos h0 (show (0 : Int) < ((2 ^ (b + 1074).toNat : Nat) : Int) by omega)
    have h2 : T.natAbs ≠ 0 := by omega
    have h3 : T ≠ 0 := by omega
    rw [if_neg h2, if_neg h3, if_pos h1]
    simp [h0]
  · subst h0
    simp
  · have h1 := Int.mul_pos h0 (show (0 : Int) < ((2 ^ (b + 1074).toNat : Nat) : Int) by omega)
    have h2 : T.natAbs ≠ 0 := by omega
    have h3 : T ≠ 0 := by omega
    have h4 : ¬ T < 0 := by omega
    have h5 : ¬ T * ((2 ^ (b + 1074).toNat : Nat) : Int) < 0 := by omega
    have h6 : ¬ T * ((2 ^ (b + 1074).toNat : Nat) : Int) = 0 := by omega
    rw [if_neg h2, if_neg h3, if_neg h5, if_neg h6]
    simp [h4]

theorem mul_comm' (x y : Nat) : Ieee.double.mul x y = Ieee.double.mul y x := by
  unfold Ieee.Format.mul
  congr 1
  cases Ieee.double.read x <;> cases Ieee.double.read y <;> simp only [Ieee.Datum.product]
  all_goals first | rfl | (simp [Nat.mul_comm, Int.add_comm, Bool.xor_comm]; done) | (rw [Bool.xor_comm])

/-- Where it is sure, all that is on the way is what it is. -/
theorem TurnIs.yes {ax ay bx b_y cx cy : Nat} {n : Int} (h : TurnIs ax ay bx b_y cx cy n true) : ∃ p q l u v r d s z,
    Ieee.double.sub ax cx = some p ∧ Ieee.double.sub b_y cy = some q ∧ Ieee.double.mul p q = some l ∧ Ieee.double.sub ay cy = some u ∧ Ieee.double.sub bx cx = some v ∧ Ieee.double.mul u v = some r ∧
    FR Ieee.double.sub l r d ∧ Ieee.double.add (absB l) (absB r) = some s ∧ FR Ieee.double.mul s 4382002437431492608 z ∧ isFin p ∧ isFin q ∧ isFin l ∧ isFin u ∧ isFin v ∧ isFin r ∧ isFin s ∧ sureB s = true ∧
    (Ieee.double.order (absB d) z == some .lt) = false ∧ n = signO d := by
  obtain ⟨p, q, l, u, v, r, d, s, ht, h⟩ := h
  rcases h with ⟨_, _, h⟩ | ⟨hs, z, hz, ⟨_, _, h⟩ | ⟨ho, hn, _⟩⟩
  · cases h
  · cases h
  · obtain ⟨fs, fl, fr, fp, fq, fu, fv⟩ := ht.fins hs
    exact ⟨p, q, l, u, v, r, d, s, z, ht.p1.fin fp, ht.q1.fin fq, ht.l1.fin fl, ht.u1.fin fu, ht.v1.fin fv, ht.r1.fin fr, ht.d1, ht.s1.fin fs, hz, fp, fq, fl, fu, fv, fr, fs, hs, ho, hn⟩
theorem sub_some {x y r : Nat} (hx : isFin x) (hy : isFin y) (h : FR Ieee.double.sub x y r) : Ieee.double.sub x y = some r := by
  rcases h.1 with h | ⟨h, _⟩
  · exact h
  · obtain ⟨m, i, ex, _, _⟩ := read_fin hx
    obtain ⟨n, j, ey, _, _⟩ := read_fin hy
    unfold Ieee.Format.sub at h
    rw [ex, ey] at h
    cases h
theorem turn_other {ax ay bx b_y cx cy : Nat} {n m : Int} (h : TurnIs ax ay bx b_y cx cy n true) (k : TurnIs bx b_y ax ay cx cy m true) : n = -m := by
  obtain ⟨p, q, l, u, v, r, d, s, z, a1, a2, a3, a4, a5, a6, a7, _, _, _, _, fl, _, _, fr, _, _, _, hn⟩ := h.yes
  obtain ⟨p', q', l', u', v', r', d', s', z', b1, b2, b3, b4, b5, b6, b7, _, _, _, _, fl', _, _, fr', _, _, _, hm⟩ := k.yes
  rw [a5] at b1; cases b1
  rw [a4] at b2; cases b2
  rw [a2] at b4; cases b4
  rw [a1] at b5; cases b5
  rw [mul_comm', a6] at b3; cases b3
  rw [mul_comm', a3] at b6; cases b6
  rw [hn, hm, sub_sign fl fr (sub_some fl fr a7), sub_sign fr fl (sub_some fr fl b7), ← sgn_neg]
  congr 1
  omega
theorem part_fin : isFin 4382002437431492608 := by unfold isFin; decide
theorem part_val {e : Nat} (he : e = 972) : val 4382002437431492608 = ((4503599627370496 * 2 ^ e : Nat) : Int) := by
  rw [val_fin part_fin]
  have e1 : 4382002437431492608 / 9223372036854775808 % 2 = 0 := by decide
  have e2 : 4382002437431492608 % 9223372036854775808 = 4382002437431492608 := by decide
  have e3 : 4382002437431492608 / 4503599627370496 - 1 = e := by omega
  have e4 : 4382002437431492608 % 4503599627370496 = 0 := by decide
  rw [e1, e2]
  have e5 : rv 4382002437431492608 = 4503599627370496 * 2 ^ e := by
    unfold rv
    rw [if_neg (by omega), e3, e4]
  rw [e5]
  simp
theorem K1074_of {e : Nat} (he : e = 972) : K1074 = 4503599627370496 * 2 ^ e * 1125899906842624 := by
  unfold K1074
  have h : c1074 = 52 + e + 50 := by unfold c1074; omega
  rw [h, Nat.pow_add, Nat.pow_add]
theorem min_ge {a b c : Nat} (h : min a b = c) : c ≤ a := by
  rw [← h]
  exact Nat.min_le_left a b
theorem inf_of {z : Nat} (h : z % 9223372036854775808 ≤ 9218868437227405312) (hf : ¬ isFin z) : z % 9223372036854775808 = 9218868437227405312 := by
  unfold isFin at hf
  exact Nat.le_antisymm h (Nat.le_of_not_lt hf)
theorem zero_not_inf {neg : Bool} {z : Nat} (hz : z = Ieee.double.word neg 0) (h1 : z % 9223372036854775808 = 9218868437227405312) : False := by
  have h := (word_parts neg 0 (Nat.zero_le _)).1
  rw [← hz, h1] at h
  exact absurd h (by decide)
/-- A number written that is none: it was too big. -/
theorem write_over {neg : Bool} {mag : Nat} {place : Int} {z e : Nat} (he : e = 2045) (hz : z = Ieee.double.write (.number neg mag place)) (hf : ¬ isFin z) :
    z % 9223372036854775808 = 9218868437227405312 ∧ (z / 9223372036854775808 % 2 == 1) = neg ∧ 0 < mag ∧ ∃ L k : Nat, 9007199254740992 * 2 ^ e ≤ k * 2 ^ L ∧ ((∃ s : Nat, place + 1074 = (L : Int) + s ∧ k = mag * 2 ^ s) ∨
       ∃ d : Nat, 0 < d ∧ place + 1074 + d = (L : Int) ∧ 2 * (k * 2 ^ d) ≤ 2 * mag + 2 ^ d ∧ 2 * mag ≤ 2 * (k * 2 ^ d) + 2 ^ d ∧ (L = 0 ∨ 2 ^ (d + 52) ≤ mag)) := by
  have hp := write_parts neg mag place z hz
  have h1 := inf_of hp.1 hf
  have hm : 0 < mag := by
    rcases Nat.eq_zero_or_pos mag with h0 | h0
    · exfalso
      rw [h0, write_zero] at hz
      exact zero_not_inf hz h1
    · exact h0
  obtain ⟨L, k, hnr, _, hcase, hk1, hk2⟩ := nearest_spec neg mag place hm
  have hz2 : z = Ieee.double.word neg (min (L * 4503599627370496 + k) 9218868437227405312) := hz.trans hnr
  have hw := (word_parts neg (min (L * 4503599627370496 + k) 9218868437227405312) (Nat.min_le_right _ _)).1
  rw [← hz2, h1] at hw
  have hge := min_ge hw.symm
  have hbig := rv_big' he hk1 hk2 hge
  clear hk1 hk2 hge hw hz2 hnr
  exact ⟨h1, hp.2.1, hm, L, k, hbig, hcase⟩
/-- A product that is none: it was too big. -/
theorem mul_over {x y z e : Nat} (he : e = 2045) (hx : isFin x) (hy : isFin y) (h : Ieee.double.mul x y = some z) (hf : ¬ isFin z) :
    9007199254740992 * (9007199254740992 * 2 ^ e * K1074) ≤ 9007199254740992 * (val x * val y).natAbs + (val x * val y).natAbs + 4503599627370496 * K1074 := by
  obtain ⟨m, i, ex, hi, hm⟩ := read_fin hx
  obtain ⟨n, j, ey, hj, hn⟩ := read_fin hy
  rw [Int.natAbs_mul, val_abs hx, val_abs hy, ← hm, ← hn]
  have hz : z = Ieee.double.write (.number ((x / 9223372036854775808 % 2 == 1) ^^ (y / 9223372036854775808 % 2 == 1)) (m * n) (i + j)) := by
    unfold Ieee.Format.mul at h
    rw [ex, ey] at h
    simpa [Ieee.Datum.product] using h.symm
  obtain ⟨_, _, hmn, L, k, hbig, hcase⟩ := write_over he hz hf
  have hnear := (kept_near (L := L) (k := k) (show -2148 ≤ i + j by omega) hcase).1
  have eE : m * n * 2 ^ (i + j + 2148).toNat = (m * 2 ^ (i + 1074).toNat) * (n * 2 ^ (j + 1074).toNat) := by
    have : (i + j + 2148).toNat = (i + 1074).toNat + (j + 1074).toNat := by omega
    rw [this, Nat.pow_add]
    simp only [Nat.mul_assoc, Nat.mul_left_comm]
  rw [eE, k53] at hnear
  exact Nat.le_trans (Nat.mul_le_mul_left _ (Nat.mul_le_mul_right _ hbig)) hnear
theorem sum_over {s t : Bool} {m n : Nat} {i j : Int} {z e : Nat} (he : e = 2045) (hi : -1074 ≤ i) (hj : -1074 ≤ j)
    (h : ((Ieee.Datum.number s m i).sum (.number t n j)).map Ieee.double.write = some z) (hf : ¬ isFin z) :
    9007199254740992 * (9007199254740992 * 2 ^ e) ≤ 9007199254740992 * (dval (.number s m i) + dval (.number t n j)).natAbs + (dval (.number s m i) + dval (.number t n j)).natAbs + 4503599627370496 := by
  simp only [Ieee.Datum.sum, Option.map_some, Option.some.injEq] at h
  obtain ⟨b, hb⟩ : ∃ b, b = min i j := ⟨_, rfl⟩
  rw [← hb] at h
  obtain ⟨T, hT⟩ : ∃ T, T = Ieee.signed s m (i - b).toNat + Ieee.signed t n (j - b).toNat := ⟨_, rfl⟩
  rw [← hT] at h
  have hS : T * ((2 ^ (b + 1074).toNat : Nat) : Int) = dval (.number s m i) + dval (.number t n j) := by
    rw [hT, Int.add_mul, signed_val s m i b (by omega) (by omega), signed_val t n j b (by omega) (by omega)]
  rw [← hS, ← natAbs_mul_nat]
  have hb1 : -1074 ≤ b := by omega
  have hb2 : -2148 ≤ b := by omega
  obtain ⟨_, _, _, L, k, hbig, hcase⟩ := write_over he h.symm hf
  have hnear := (kept_near (L := L) (k := k) hb2 hcase).1
  have e1 : T.natAbs * 2 ^ (b + 2148).toNat = T.natAbs * 2 ^ (b + 1074).toNat * K1074 := by
    have : (b + 2148).toNat = (b + 1074).toNat + c1074 := by unfold c1074; clear hcase hbig hnear; omega
    rw [this, Nat.pow_add, ← Nat.mul_assoc]
    rfl
  rw [e1, k53] at hnear
  generalize T.natAbs * 2 ^ (b + 1074).toNat = D at *
  generalize k * 2 ^ L = y at *
  have h2 : 9007199254740992 * y ≤ 9007199254740992 * D + D + 4503599627370496 := by
    refine Nat.le_of_mul_le_mul_right (c := K1074) ?_ K1074_pos
    rw [Nat.add_mul, Nat.add_mul, Nat.mul_assoc, Nat.mul_assoc]
    exact hnear
  exact Nat.le_trans (Nat.mul_le_mul_left _ hbig) h2
theorem sub_over {x y z e : Nat} (he : e = 2045) (hx : isFin x) (hy : isFin y) (h : Ieee.double.sub x y = some z) (hf : ¬ isFin z) :
    9007199254740992 * (9007199254740992 * 2 ^ e) ≤ 9007199254740992 * (val x - val y).natAbs + (val x - val y).natAbs + 4503599627370496 := by
  obtain ⟨m, i, ex, hi, _⟩ := read_fin hx
  obtain ⟨n, j, ey, hj, _⟩ := read_fin hy
  unfold Ieee.Format.sub at h
  unfold val
  rw [ex, ey] at h ⊢
  have h2 := sum_over he hi hj h hf
  have e := dval_opposite (.number (y / 9223372036854775808 % 2 == 1) n j)
  simp only [Ieee.Datum.opposite] at e
  rw [e, ← Int.sub_eq_add_neg] at h2
  exact h2
theorem part_over {S b c y : Nat} (hb : 0 < b) (hc : 0 < c) (hS : S ≤ 9007199254740992 * b)
    (h : 9007199254740992 * (9007199254740992 * b * (4503599627370496 * c * 1125899906842624)) ≤ 9007199254740992 * (S * (4503599627370496 * c)) + S * (4503599627370496 * c) + 4503599627370496 * (4503599627370496 * c * 1125899906842624)) : False := by
  have e1 : 9007199254740992 * b * (4503599627370496 * c * 1125899906842624) = (b * c) * 45671926166590716193865151022383844364247891968 := by
    rw [Nat.mul_comm (4503599627370496 * c), ← Nat.mul_assoc, ← Nat.mul_assoc]
    have : 9007199254740992 * b * 1125899906842624 * 4503599627370496 * c = b * c * (9007199254740992 * (1125899906842624 * 4503599627370496)) := by simp only [Nat.mul_assoc, Nat.mul_left_comm, Nat.mul_comm]
    rw [this]
  have e2 : S * (4503599627370496 * c) = (S * c) * 4503599627370496 := by simp only [Nat.mul_assoc, Nat.mul_comm]
  rw [e1, e2] at h
  have h4 : S * c ≤ 9007199254740992 * b * c := Nat.mul_le_mul_right _ hS
  have h5 : 1 * c ≤ b * c := Nat.mul_le_mul_right _ hb
  rw [Nat.mul_assoc 9007199254740992 b c] at h4
  generalize S * c = sc at *
  generalize b * c = bc at *
  omega
theorem part_fits {s z : Nat} (hsf : isFin s) (h : FR Ieee.double.mul s 4382002437431492608 z) : isFin z := by
  obtain ⟨e, he⟩ : ∃ e, e = 972 := ⟨_, rfl⟩
  obtain ⟨e', he'⟩ : ∃ e', e' = 2045 := ⟨_, rfl⟩
  apply Classical.byContradiction
  intro hf
  obtain ⟨m, i, ex, hi, hm⟩ := read_fin hsf
  obtain ⟨n, j, ey, hj, hn⟩ := read_fin part_fin
  have hmul : ∃ v, Ieee.double.mul s 4382002437431492608 = some v := by
    unfold Ieee.Format.mul
    rw [ex, ey]
    exact ⟨_, rfl⟩
  obtain ⟨v, hv⟩ := hmul
  have hz := h.det hv
  subst hz
  have ho := mul_over he' hsf part_fin hv hf
  rw [Int.natAbs_mul, part_val he, Int.natAbs_natCast, K1074_of he, val_abs hsf] at ho
  exact part_over (y := 0) (Nat.two_pow_pos e') (Nat.two_pow_pos e) (rv_small' he' hsf) ho
/-- A finite sum, times 2^-50: a float near. -/
theorem part_near {s z : Nat} (hsf : isFin s) (h : FR Ieee.double.mul s 4382002437431492608 z) :
    isFin z ∧ 9007199254740992 * (val z * 1125899906842624 - val s).natAbs ≤ (val s).natAbs + 5070602400912917605986812821504 := by
  have hfin := part_fits hsf h
  obtain ⟨e, he⟩ : ∃ e, e = 972 := ⟨_, rfl⟩
  have hpe : 0 < 2 ^ e := Nat.two_pow_pos e
  refine ⟨hfin, ?_⟩
  have hmn := mul_near hsf part_fin (h.fin hfin) hfin
  rw [part_val he, K1074_of he] at hmn
  have e0 : val z * ((4503599627370496 * 2 ^ e * 1125899906842624 : Nat) : Int) - val s * ((4503599627370496 * 2 ^ e : Nat) : Int) = (val z * 1125899906842624 - val s) * ((4503599627370496 * 2 ^ e : Nat) : Int) := by
    rw [Int.sub_mul, Int.mul_assoc]
    congr 2
    rw [Int.natCast_mul, Int.mul_comm]
    rfl
  rw [e0, ← natAbs_mul_nat, ← natAbs_mul_nat] at hmn
  generalize (val z * 1125899906842624 - val s).natAbs = D at *
  generalize (val s).natAbs = S at *
  have e1 : 4503599627370496 * (4503599627370496 * 2 ^ e * 1125899906842624) = 5070602400912917605986812821504 * (4503599627370496 * 2 ^ e) := by
    generalize (2 : Nat) ^ e = c
    omega
  rw [e1, ← Nat.mul_assoc, ← Nat.add_mul] at hmn
  exact Nat.le_of_mul_le_mul_right hmn (Nat.mul_pos (by omega) hpe)
theorem part_pos {s z : Nat} (hs : sureB s = true) (h : FR Ieee.double.mul s 4382002437431492608 z) : isFin z ∧ 0 < val z := by
  obtain ⟨hsf, hsv⟩ := sure_fin hs
  obtain ⟨hf, hn⟩ := part_near hsf h
  refine ⟨hf, ?_⟩
  generalize val z = Z at *
  generalize val s = S at *
  omega
/-- Twice the same point is never sure. -/
theorem turn_same {ax ay cx cy : Nat} {n : Int} {ok : Bool} (h : TurnIs ax ay ax ay cx cy n ok) : ok = false := by
  cases ok with
  | false => rfl
  | true =>
    exfalso
    obtain ⟨p, q, l, u, v, r, d, s, z, a1, a2, a3, a4, a5, a6, a7, a8, a9, _, _, fl, _, _, fr, fs, hsure, ho, _⟩ := h.yes
    rw [a1] at a5; cases a5
    rw [a2] at a4; cases a4
    rw [mul_comm', a3] at a6; cases a6
    obtain ⟨zf, zp⟩ := part_pos hsure a9
    have hd := sub_some fl fl a7
    have hdd : d = Ieee.double.word false 0 ∨ d = Ieee.double.word true 0 := by
      obtain ⟨m, i, ex, hi, _⟩ := read_fin fl
      unfold Ieee.Format.sub at hd
      rw [ex] at hd
      simp only [Ieee.Datum.opposite, Ieee.Datum.sum, Option.map_some, Option.some.injEq] at hd
      have e0 : Ieee.signed (l / 9223372036854775808 % 2 == 1) m (i - min i i).toNat + Ieee.signed (!(l / 9223372036854775808 % 2 == 1)) m (i - min i i).toNat = 0 := by
        unfold Ieee.signed
        cases (l / 9223372036854775808 % 2 == 1)
        · simp only [Bool.not_false, Bool.false_eq_true, if_false, if_true]
          omega
        · simp only [Bool.not_true, Bool.false_eq_true, if_false, if_true]
          omega
      rw [e0] at hd
      rw [← hd, Int.natAbs_zero, write_zero]
      generalize (if (0 : Int) = 0 then (l / 9223372036854775808 % 2 == 1) && !(l / 9223372036854775808 % 2 == 1) else decide ((0 : Int) < 0)) = bb
      cases bb
      · exact .inl rfl
      · exact .inr rfl
    have ha : absB d = 0 := by
      rcases hdd with rfl | rfl <;> decide +kernel
    rw [ha, order_fin (by unfold isFin; decide) zf, val_zero] at ho
    have e : compare (0 : Int) (val z) = .lt := Int.compare_eq_lt.2 zp
    rw [e] at ho
    exact absurd ho (by decide)
end Go.Proofs.Ytmkpeihcchdjcaa
