/- The walks of outriggerref05's power, Fields, Finite, Parts, Num. -/
import Derived.Test.YtmkpeihcchdjcaaDoorRefH
import Derived.Test.YtmkpeihcchdjcaaDoorFlo
set_option linter.unusedVariables false
set_option linter.unusedSimpArgs false
namespace Go.Proofs.YtmkpeihcchdjcaaDoor
open Go.RowKit

set_option maxRecDepth 100000 in
theorem power_calls (n P : Nat) (hn : n ≤ 63) (hP : P = 2 ^ n) (w : World) :
    Calls Tryd.prog 45 #[.int .i64 n] w fun e w' => e = .returned (.int .u64 P) ∧ w = w' := by
  have hP' := Lib.hid hP
  clear hP
  go_enter Tryd.func45, Tryd.ntmps45
  go_wp2_with fail
  go_loop [3, 4] (fun v3 v4 => ∃ i p : Nat, v4 = .int .i64 i ∧ i ≤ n ∧ v3 = .int .u64 p ∧ Hid (p = 2 ^ i)) (fun _ v => n - (intOf v).toNat)
  case atStart => exact ⟨0, 1, rfl, Nat.zero_le _, rfl, rfl⟩
  case round =>
    obtain ⟨i, p, rfl, hi, rfl, hp⟩ := hrel
    by_cases hlt : i < n
    · obtain ⟨p2, hp2⟩ : ∃ p2, p2 = 2 * p := ⟨_, rfl⟩
      have hpb : p ≤ 4611686018427387904 := by
        rw [hp.out]
        exact Nat.le_trans (Nat.pow_le_pow_right (by omega) (show i ≤ 62 by omega)) (by decide)
      have hw : IntKind.u64.wrap (2 * (p : Int)) = (p2 : Int) := by rw [IntKind.wrap_u64]; omega
      have hp2' : Hid (p2 = 2 ^ (i + 1)) := by
        show p2 = _
        rw [hp2, hp.out, Nat.pow_succ, Nat.mul_comm]
      clear hp hp2 hpb
      go_wp2_with fail
      go_round
      case rel => exact ⟨i + 1, p2, by go_num, by omega, rfl, hp2'⟩
      case measure => simp [intOf]; omega
    · obtain rfl : i = n := by omega
      have hpp : p = P := by rw [hp.out, hP'.out]
      subst hpp
      go_wp2_with fail
      go_ret
      exact ⟨rfl, rfl⟩
theorem p63_calls (w : World) : Calls Tryd.prog 45 #[.int .i64 63] w fun e w' => e = .returned (.int .u64 9223372036854775808) ∧ w = w' :=
  power_calls 63 9223372036854775808 (by omega) (by decide) w
theorem p52_calls (w : World) : Calls Tryd.prog 45 #[.int .i64 52] w fun e w' => e = .returned (.int .u64 4503599627370496) ∧ w = w' :=
  power_calls 52 4503599627370496 (by omega) (by decide) w

set_option maxHeartbeats 1000000 in
set_option maxRecDepth 100000 in
theorem fields_calls (x : Nat) (hx : x < 18446744073709551616) (w : World) :
    Calls Tryd.prog 37 #[.int .u64 x] w fun e w' => e = .returned (.tuple #[.bool (decide (9223372036854775808 ≤ x)), .int .i64 (x / 4503599627370496 % 2048 : Nat), .int .u64 (x % 4503599627370496 : Nat)]) ∧ ∃ nd, w' = w.drewN nd := by
  obtain ⟨E, hE⟩ : ∃ E, E = x / 4503599627370496 % 2048 := ⟨_, rfl⟩
  obtain ⟨F, hF⟩ : ∃ F, F = x % 4503599627370496 := ⟨_, rfl⟩
  obtain ⟨D, hD⟩ : ∃ D, D = x / 4503599627370496 := ⟨_, rfl⟩
  rw [← hE, ← hF]
  have h1 : (x : Int) / 4503599627370496 = (D : Int) := by omega
  have h2 : (D : Int) % 2048 = (E : Int) := by omega
  have h3 : (x : Int) % 4503599627370496 = (F : Int) := by omega
  have h4 : E < 2048 := by omega
  clear hE hF hD
  go_enter Tryd.func37, Tryd.ntmps37
  go_wp2_with fail
  go_quiet (first | (go_at_call_of 45 (Value.int .i64 63); exact quiet_eq (p63_calls _)) | (go_at_call_of 45 (Value.int .i64 52); exact quiet_eq (p52_calls _)))
  have h5 : decide ((9223372036854775808 : Int) ≤ (x : Int)) = decide (9223372036854775808 ≤ x) := decide_eq_decide.2 (by omega)
  rw [h3, h5]
  go_wp2_with fail
  refine bodyPost_ret (v := .tuple #[.bool (decide (9223372036854775808 ≤ x)), .int .i64 (E : Nat), .int .u64 (F : Nat)]) (by simp [results, Tryd.results37, go_sem]) rfl ?_
  exact ⟨rfl, _, rfl⟩

/-- Are the bits a finite float's? -/
theorem fin_iff (x : Nat) : isFin x ↔ x / 4503599627370496 % 2048 ≠ 2047 := by unfold isFin; omega
set_option maxRecDepth 100000 in
theorem finite_calls (x : Nat) (hx : x < 18446744073709551616) (w : World) :
    Calls Tryd.prog 10 #[.int .u64 x] w fun e w' => e = .returned (.bool (decide (x / 4503599627370496 % 2048 ≠ 2047))) ∧ ∃ nd, w' = w.drewN nd := by
  have cf := Lib.hid (fields_calls x hx)
  obtain ⟨E, hE⟩ : ∃ E, E = x / 4503599627370496 % 2048 := ⟨_, rfl⟩
  rw [← hE] at cf ⊢
  clear hE
  have h5 : decide (E ≠ 2047) = !((E : Int) == 2047) := by
    by_cases h : E = 2047
    · subst h; rfl
    · have : ((E : Int) == 2047) = false := by simp; omega
      rw [this]
      simp [h]
  rw [h5]
  go_enter Tryd.func10, Tryd.ntmps10
  go_wp2_with fail
  refine (cf.out _).mono ?_
  rintro e w' ⟨rfl, nd, rfl⟩
  go_wp2_with fail
  go_ret
  exact ⟨rfl, _, rfl⟩

/-- The bits' number, as the reference has it. -/
theorem half_step {m M j : Nat} (h : m * 2 ^ j = M) (he : m % 2 = 0) : m / 2 * 2 ^ (j + 1) = M := by
  rw [Nat.pow_succ, Nat.mul_comm (2 ^ j) 2, ← Nat.mul_assoc]
  have : m / 2 * 2 = m := by omega
  rw [this]
  exact h
/-- The bits' number and place, before it is made odd. -/
def mantOf (x : Nat) : Nat := if x / 4503599627370496 % 2048 = 0 then x % 4503599627370496 else x % 4503599627370496 + 4503599627370496
def expOf (x : Nat) : Nat := if x / 4503599627370496 % 2048 = 0 then 0 else x / 4503599627370496 % 2048 - 1
/-- The parts, by definition. -/
def PartsOf (x : Nat) (neg : Bool) (m : Nat) (z : Int) : Prop :=
  (mantOf x = 0 ∧ neg = false ∧ m = 0 ∧ z = 0) ∨ (mantOf x ≠ 0 ∧ neg = decide (9223372036854775808 ≤ x) ∧ m % 2 = 1 ∧ ∃ j : Nat, m * 2 ^ j = mantOf x ∧ z = (expOf x : Int) + (j : Int) - 1074)
/-- What the reference's Parts answers. -/
def PartsIs (x : Nat) (v : Value) : Prop := ∃ (neg : Bool) (m k : Nat) (z : Int), v = .tuple #[.bool neg, .int .u64 m, .int .i64 z] ∧ z = (k : Int) - 1074 ∧ k ≤ 2200 ∧ m < 18446744073709551616 ∧ val x = (if neg then -((m * 2 ^ k : Nat) : Int) else ((m * 2 ^ k : Nat) : Int)) ∧ PartsOf x neg m z
set_option maxHeartbeats 1000000 in
set_option maxRecDepth 100000 in
theorem parts_calls (x : Nat) (hx : x < 18446744073709551616) (hf : isFin x) (w : World) :
    Calls Tryd.prog 17 #[.int .u64 x] w fun e w' => ∃ v, e = .returned v ∧ PartsIs x v ∧ ∃ nd, w' = w.drewN nd := by
  have cf := Lib.hid (fields_calls x hx)
  obtain ⟨E, hE⟩ : ∃ E, E = x / 4503599627370496 % 2048 := ⟨_, rfl⟩
  obtain ⟨F, hF⟩ : ∃ F, F = x % 4503599627370496 := ⟨_, rfl⟩
  obtain ⟨S, hS⟩ : ∃ S, S = decide (9223372036854775808 ≤ x) := ⟨_, rfl⟩
  rw [← hE, ← hF, ← hS] at cf
  have hEb : E < 2047 := by
    have := (fin_iff x).1 hf
    omega
  have hFb : F < 4503599627370496 := by omega
  obtain ⟨M, hM⟩ : ∃ M, M = if E = 0 then F else F + 4503599627370496 := ⟨_, rfl⟩
  obtain ⟨K, hK⟩ : ∃ K, K = if E = 0 then 0 else E - 1 := ⟨_, rfl⟩
  have hMx : Hid (M = mantOf x) := by show M = _; rw [hM, hE, hF]; rfl
  have hKx : Hid (K = expOf x) := by show K = _; rw [hK, hE]; rfl
  have hSx := Lib.hid hS
  have hval : Hid (val x = if S then -((M * 2 ^ K : Nat) : Int) else ((M * 2 ^ K : Nat) : Int)) := by
    show _ = _
    have e1 : x % 9223372036854775808 / 4503599627370496 = E := by omega
    have e2 : x % 9223372036854775808 % 4503599627370496 = F := by omega
    have e3 : (x / 9223372036854775808 % 2 == 1) = S := by
      rw [hS]
      by_cases h : 9223372036854775808 ≤ x
      · have : x / 9223372036854775808 % 2 = 1 := by omega
        rw [this]; simp [h]
      · have : x / 9223372036854775808 % 2 = 0 := by omega
        rw [this]; simp [h]
    have e4 : rv (x % 9223372036854775808) = M * 2 ^ K := by
      unfold rv
      rw [hM, hK]
      by_cases h0 : E = 0
      · rw [if_pos (by omega), if_pos h0, if_pos h0]
        omega
      · rw [if_neg (by omega), if_neg h0, if_neg h0, e1, e2, Nat.add_comm]
    rw [val_fin hf, e3, e4]
  clear hE hF hS
  go_enter Tryd.func17, Tryd.ntmps17
  go_wp2_with fail
  refine (cf.out _).mono ?_
  rintro e w' ⟨rfl, nd, rfl⟩
  clear cf
  have hMb : M < 9007199254740992 := by rw [hM]; split <;> omega
  have hKb : K ≤ 2045 := by rw [hK]; split <;> omega
  by_cases h0 : E = 0
  · rw [if_pos h0] at hM hK
    subst h0 hM hK
    by_cases hM0 : M = 0
    · subst hM0
      have hv : Hid (val x = 0) := by
        have h1 := hval.out
        simp only [Nat.zero_mul] at h1
        rw [h1]
        cases S <;> rfl
      have hpo : Hid (PartsOf x false 0 0) := .inl ⟨hMx.out.symm, rfl, rfl, rfl⟩
      clear hval hMx hKx hSx
      go_wp2_with fail
      refine bodyPost_ret (v := .tuple #[.bool false, .int .u64 0, .int .i64 0]) (by simp [results, Tryd.results17, go_sem]) rfl ?_
      obtain ⟨k, hk⟩ : ∃ k : Nat, k = 1074 := ⟨_, rfl⟩
      exact ⟨_, rfl, ⟨false, 0, k, 0, rfl, by omega, by omega, by omega, by rw [hv.out, Nat.zero_mul]; rfl, hpo.out⟩, nd, rfl⟩
    · have hM1 : ((M : Int) == 0) = false := by simp; omega
      obtain ⟨K, hK⟩ : ∃ K : Nat, K = 0 := ⟨_, rfl⟩
      rw [← hK] at hval hKx
      go_wp2_with fail
      go_loop [6, 7] (fun v6 v7 => ∃ (m j : Nat) (z : Int), v7 = .int .u64 m ∧ v6 = .int .i64 z ∧ -1074 ≤ z ∧ z ≤ 3000 ∧ Hid (z = (K : Int) + (j : Int) - 1074) ∧ 0 < m ∧ m < 9007199254740992 ∧ j ≤ 60 ∧ Hid (m * 2 ^ j = M)) (fun _ v => (intOf v).toNat)
      case atStart => exact ⟨M, 0, _, rfl, rfl, by omega, by omega, by show (_ : Int) = _; omega, by omega, by omega, by omega, by show M * 2 ^ 0 = M; omega⟩
      case round =>
        obtain ⟨m, j, z, rfl, rfl, hz1, hz9, hz, hm0, hmb, hj, hMj⟩ := hrel
        by_cases he : m % 2 = 0
        · have he2 : ((m : Int) % 2 == 0) = true := by simp; omega
          obtain ⟨m2, hm2⟩ : ∃ m2, m2 = m / 2 := ⟨_, rfl⟩
          have hm3 : (m : Int) / 2 = (m2 : Int) := by omega
          have hst : Hid (m2 * 2 ^ (j + 1) = M) := by rw [hm2]; exact half_step hMj.out he
          have hj2 : j + 1 ≤ 60 := by
            have h1 : 2 ^ (j + 1) ≤ M := by
              rw [← hst.out]
              exact Nat.le_mul_of_pos_left _ (by omega)
            have h2 : 2 ^ (j + 1) < 2 ^ 53 := Nat.lt_of_le_of_lt h1 (Nat.lt_of_lt_of_le hMb (by decide))
            have := (Nat.pow_lt_pow_iff_right (by omega : 1 < 2)).1 h2
            omega
          obtain ⟨z2, hz2⟩ : ∃ z2, z + 1 = z2 := ⟨_, rfl⟩
          have hz3 : Hid (z2 = (K : Int) + ((j + 1 : Nat) : Int) - 1074) := by show z2 = _; have := hz.out; omega
          have hz4 : z2 ≤ 3000 := by have := hz3.out; omega
          have hm4 : 0 < m2 := by omega
          have hm5 : m2 < m := by omega
          have hz5 : -1074 ≤ z2 := by omega
          clear hm2
          clear hMj
          go_wp2_with fail
          go_round
          case rel => exact ⟨m2, j + 1, z2, rfl, rfl, hz5, hz4, hz3, hm4, by omega, hj2, hst⟩
          case measure => simp [intOf]; omega
        · have he2 : ((m : Int) % 2 == 0) = false := by simp; omega
          have hv : Hid (val x = if S then -((m * 2 ^ (K + j) : Nat) : Int) else ((m * 2 ^ (K + j) : Nat) : Int)) := by
            have h1 := hval.out
            have h2 : m * 2 ^ (K + j) = M * 2 ^ K := by rw [← hMj.out, Nat.pow_add, Nat.mul_assoc, Nat.mul_comm (2 ^ K)]
            rw [h2]
            exact h1
          have hpo : Hid (PartsOf x S m z) := .inr ⟨by rw [← hMx.out, ← hMj.out]; exact Nat.pos_iff_ne_zero.1 (Nat.mul_pos hm0 (Nat.two_pow_pos _)), hSx.out, by omega, j, by rw [hMj.out, hMx.out], by rw [← hKx.out]; exact hz.out⟩
          clear hMj hval hMx hKx hSx
          go_wp2_with fail
          refine bodyPost_ret (v := .tuple #[.bool S, .int .u64 (m : Nat), .int .i64 z]) (by simp [results, Tryd.results17, go_sem]) rfl ?_
          exact ⟨_, rfl, ⟨S, m, K + j, z, rfl, by have := hz.out; omega, by have := hz.out; omega, by omega, hv.out, hpo.out⟩, nd, rfl⟩
  · rw [if_neg h0] at hM hK
    have hE1 : ((E : Int) == 0) = false := by simp; omega
    have hM0 : (F : Int) + 4503599627370496 = (M : Int) := by omega
    have hM1 : ((M : Int) == 0) = false := by simp; omega
    have hM2 : 0 < M := by omega
    obtain ⟨z0, hz0⟩ : ∃ z0, (E : Int) - 1075 = z0 := ⟨_, rfl⟩
    have hz6 : Hid (z0 = (K : Int) - 1074) := by show z0 = _; omega
    have hz7 : -1074 ≤ z0 := by omega
    have hz8 : z0 ≤ 3000 := by omega
    clear hM hK
    go_wp2_with fail
    refine (p52_calls _).mono ?_
    rintro e w' ⟨rfl, rfl⟩
    go_wp2_with fail
    go_loop [6, 7] (fun v6 v7 => ∃ (m j : Nat) (z : Int), v7 = .int .u64 m ∧ v6 = .int .i64 z ∧ -1074 ≤ z ∧ z ≤ 3000 ∧ Hid (z = (K : Int) + (j : Int) - 1074) ∧ 0 < m ∧ m < 9007199254740992 ∧ j ≤ 60 ∧ Hid (m * 2 ^ j = M)) (fun _ v => (intOf v).toNat)
    case atStart => exact ⟨M, 0, _, rfl, rfl, by omega, by omega, by show (_ : Int) = _; have := hz6.out; omega, by omega, by omega, by omega, by show M * 2 ^ 0 = M; omega⟩
    case round =>
      obtain ⟨m, j, z, rfl, rfl, hz1, hz9, hz, hm0, hmb, hj, hMj⟩ := hrel
      by_cases he : m % 2 = 0
      · have he2 : ((m : Int) % 2 == 0) = true := by simp; omega
        obtain ⟨m2, hm2⟩ : ∃ m2, m2 = m / 2 := ⟨_, rfl⟩
        have hm3 : (m : Int) / 2 = (m2 : Int) := by omega
        have hst : Hid (m2 * 2 ^ (j + 1) = M) := by rw [hm2]; exact half_step hMj.out he
        have hj2 : j + 1 ≤ 60 := by
          have h1 : 2 ^ (j + 1) ≤ M := by
            rw [← hst.out]
            exact Nat.le_mul_of_pos_left _ (by omega)
          have h2 : 2 ^ (j + 1) < 2 ^ 53 := Nat.lt_of_le_of_lt h1 (Nat.lt_of_lt_of_le hMb (by decide))
          have := (Nat.pow_lt_pow_iff_right (by omega : 1 < 2)).1 h2
          omega
        obtain ⟨z2, hz2⟩ : ∃ z2, z + 1 = z2 := ⟨_, rfl⟩
        have hz3 : Hid (z2 = (K : Int) + ((j + 1 : Nat) : Int) - 1074) := by show z2 = _; have := hz.out; omega
        have hz4 : z2 ≤ 3000 := by have := hz3.out; omega
        have hm4 : 0 < m2 := by omega
        have hm5 : m2 < m := by omega
        have hz5 : -1074 ≤ z2 := by omega
        clear hm2
        clear hMj
        go_wp2_with fail
        go_round
        case rel => exact ⟨m2, j + 1, z2, rfl, rfl, hz5, hz4, hz3, hm4, by omega, hj2, hst⟩
        case measure => simp [intOf]; omega
      · have he2 : ((m : Int) % 2 == 0) = false := by simp; omega
        have hv : Hid (val x = if S then -((m * 2 ^ (K + j) : Nat) : Int) else ((m * 2 ^ (K + j) : Nat) : Int)) := by
          have h1 := hval.out
          have h2 : m * 2 ^ (K + j) = M * 2 ^ K := by rw [← hMj.out, Nat.pow_add, Nat.mul_assoc, Nat.mul_comm (2 ^ K)]
          rw [h2]
          exact h1
        have hpo : Hid (PartsOf x S m z) := .inr ⟨by rw [← hMx.out, ← hMj.out]; exact Nat.pos_iff_ne_zero.1 (Nat.mul_pos hm0 (Nat.two_pow_pos _)), hSx.out, by omega, j, by rw [hMj.out, hMx.out], by rw [← hKx.out]; exact hz.out⟩
        clear hMj hval hMx hKx hSx
        go_wp2_with fail
        refine bodyPost_ret (v := .tuple #[.bool S, .int .u64 (m : Nat), .int .i64 z]) (by simp [results, Tryd.results17, go_sem]) rfl ?_
        exact ⟨_, rfl, ⟨S, m, K + j, z, rfl, by have := hz.out; omega, by have := hz.out; omega, by omega, hv.out, hpo.out⟩, nd, rfl⟩
end Go.Proofs.YtmkpeihcchdjcaaDoor
