/- The walks of package float. -/
import Derived.Test.YtmkpeihcchdjcaaDoorRefI
import Derived.Test.YtmkpeihcchdjcaaDoorFltQ
import Derived.Test.YtmkpeihcchdjcaaDoorCode
import Derived.Lib.TrailingZeros
import Derived.Laws.Bits64b
set_option linter.unusedVariables false
set_option linter.unusedSimpArgs false
namespace Go.Proofs.YtmkpeihcchdjcaaDoor
open Go.RowKit

/-- The table in its variable. -/
def TabAt (w : World) : Prop := ∀ j, j < 64 → w.cell? ⟨1, j, none⟩ = some (.int .u8 (Lib.deBruijn64tab.getD j 0 : Nat))
theorem TabAt.below {w w' : World} (h : TabAt w) (hb : Below w.heap.size w w') : TabAt w' := fun j hj => cell_below hb (h j hj)
theorem tabAt_of {w : World} (h : ∀ j, j < 64 → w.cell? ⟨1, j, none⟩ = some (.int .u8 (([0, 1, 56, 2, 57, 49, 28, 3, 61, 58, 42, 50, 38, 29, 17, 4, 62, 47, 59, 36, 45, 43, 51, 22, 53, 39, 33, 30, 24, 18, 12, 5, 63, 55, 48, 27, 60, 41, 37, 16, 46, 35, 44, 21, 52, 32, 23, 11, 54, 26, 40, 15, 34, 20, 31, 10, 25, 14, 19, 9, 13, 8, 7, 6] : List Int).getD j 0))) : TabAt w := fun j hj => by
  rw [h j hj]
  have : ∀ j, j < 64 → (([0, 1, 56, 2, 57, 49, 28, 3, 61, 58, 42, 50, 38, 29, 17, 4, 62, 47, 59, 36, 45, 43, 51, 22, 53, 39, 33, 30, 24, 18, 12, 5, 63, 55, 48, 27, 60, 41, 37, 16, 46, 35, 44, 21, 52, 32, 23, 11, 54, 26, 40, 15, 34, 20, 31, 10, 25, 14, 19, 9, 13, 8, 7, 6] : List Int).getD j 0) = ((Lib.deBruijn64tab.getD j 0 : Nat) : Int) := by decide
  rw [this j hj]

theorem tz_key (x a : Nat) (hx : x < 18446744073709551616) (hx0 : x ≠ 0) (hlow : x &&& (18446744073709551616 - x) = a) :
    IntKind.u64.wrap (bits BinOp.and IntKind.u64 (x : Int) (IntKind.u64.wrap (-(x : Int))) * 285870213051353865) / 288230376151711744 = ((a * 285870213051353865 % 18446744073709551616 / 288230376151711744 : Nat) : Int) := by
  have e1 : IntKind.u64.wrap (-(x : Int)) = ((18446744073709551616 - x : Nat) : Int) := by rw [IntKind.wrap_u64]; omega
  rw [e1, bits_and_u64_nat x _ hx (by omega), hlow, IntKind.wrap_u64]
  omega
set_option maxRecDepth 100000 in
theorem tz_core (x k idx : Nat) (w : World) (hx0 : ((x : Int) == 0) = false)
    (key : IntKind.u64.wrap (bits BinOp.and IntKind.u64 (x : Int) (IntKind.u64.wrap (-(x : Int))) * 285870213051353865) / 288230376151711744 = (idx : Int))
    (hi : idx < 64) (hk : k < 64) (hcell : w.cell? ⟨1, idx, none⟩ = some (.int .u8 k)) :
    Calls Tryd.prog 44 #[.int .u64 x] w fun e w' => e = .returned (.int .i64 k) ∧ w = w' := by
  go_enter Tryd.func44, Tryd.ntmps44
  go_wp2_with (simp only [key])
  go_ret
  exact ⟨rfl, rfl⟩
theorem tz_calls (x : Nat) (hx : x < 18446744073709551616) (h0 : x ≠ 0) (w : World) (hT : TabAt w) :
    Calls Tryd.prog 44 #[.int .u64 x] w fun e w' => ∃ n m : Nat, e = .returned (.int .i64 n) ∧ n < 64 ∧ x = m * 2 ^ n ∧ m % 2 = 1 ∧ w = w' := by
  obtain ⟨hlow, hk⟩ := Lib.lowest_bit 64 x h0 hx
  obtain ⟨hi, htab⟩ := Lib.deBruijn64_at _ hk
  have hcell := hT _ hi
  rw [htab] at hcell
  have hspec : ∃ m, x = 2 ^ Lib.ctz 64 x * (2 * m + 1) := by
    obtain ⟨m, hm, _⟩ := Lib.ctzFrom_spec 64 x (by omega) hx
    exact ⟨m, by unfold Lib.ctz; rw [if_neg h0]; exact hm⟩
  obtain ⟨m, hm⟩ := hspec
  refine (tz_core x _ _ w (by simp; omega) (tz_key x _ hx h0 hlow) hi hk hcell).mono ?_
  rintro e w' ⟨rfl, rfl⟩
  exact ⟨_, 2 * m + 1, rfl, hk, by rw [Nat.mul_comm]; exact hm, by omega, rfl⟩

theorem and_2047 (x : Nat) (hx : x < 18446744073709551616) : bits .and .u64 (x : Int) 2047 = ((x % 2048 : Nat) : Int) := by
  have e := bits_and_u64_nat x 2047 hx (by omega)
  have e2 : x &&& 2047 = x % 2048 := Nat.and_two_pow_sub_one_eq_mod x 11
  rw [e2] at e
  exact e
theorem and_low (x : Nat) (hx : x < 18446744073709551616) : bits .and .u64 (x : Int) 4503599627370495 = ((x % 4503599627370496 : Nat) : Int) := by
  have e := bits_and_u64_nat x 4503599627370495 hx (by omega)
  have e2 : x &&& 4503599627370495 = x % 4503599627370496 := Nat.and_two_pow_sub_one_eq_mod x 52
  rw [e2] at e
  exact e
theorem or_low (x : Nat) (hx : x < 4503599627370496) : bits .or .u64 (x : Int) 4503599627370496 = ((x + 4503599627370496 : Nat) : Int) := by
  have e := bits_or_u64_nat x 4503599627370496 (by omega) (by omega)
  have e2 : x ||| 4503599627370496 = x + 4503599627370496 := by
    have := Nat.two_pow_add_eq_or_of_lt (i := 52) (b := x) hx 1
    rw [Nat.mul_one] at this
    rw [Nat.or_comm, Nat.add_comm]
    exact this.symm
  rw [e2] at e
  exact e
theorem andNot_top (x : Nat) (h : x < 18446744073709551616) : bits .andNot .u64 (x : Int) 9223372036854775808 = ((x % 9223372036854775808 : Nat) : Int) := by
  have e := u64_andNot_nat x 9223372036854775808 h (by omega)
  have e2 : x &&& (18446744073709551615 - 9223372036854775808) = x % 9223372036854775808 := Nat.and_two_pow_sub_one_eq_mod x 63
  rw [e2] at e
  exact e
/-- Are they a finite float's? -/
def finB (x : Nat) : Bool := decide (x / 4503599627370496 % 2048 ≠ 2047)
theorem finB_iff (x : Nat) : finB x = true ↔ isFin x := by rw [fin_iff]; unfold finB; rw [decide_eq_true_iff]
theorem rfinite_calls (x : Nat) (hx : x < 18446744073709551616) (w : World) :
    Calls Tryd.prog 10 #[.int .u64 x] w fun e w' => e = .returned (.bool (finB x)) ∧ ∃ nd, w' = w.drewN nd := finite_calls x hx w
set_option maxRecDepth 100000 in
theorem ffinite_calls (x : Nat) (hx : x < 18446744073709551616) (w : World) :
    Calls Tryd.prog 15 #[.int .u64 x] w fun e w' => e = .returned (.bool (finB x)) ∧ w = w' := by
  obtain ⟨D, hD⟩ : ∃ D, D = x / 4503599627370496 := ⟨_, rfl⟩
  obtain ⟨E, hE⟩ : ∃ E, E = D % 2048 := ⟨_, rfl⟩
  have h1 : (x : Int) / 4503599627370496 = (D : Int) := by omega
  have h2 := and_2047 D (by omega)
  rw [← hE] at h2
  have h3 : finB x = ((E : Int) != 2047) := by
    unfold finB
    rw [← hD, ← hE]
    by_cases h : E = 2047
    · subst h; rfl
    · have : ((E : Int) != 2047) = true := by simp; omega
      rw [this]; simp [h]
  rw [h3]
  clear h3 hE hD
  go_enter Tryd.func15, Tryd.ntmps15
  go_wp2_with fail
  go_ret
  exact ⟨rfl, rfl⟩
theorem norm_calls (x : Nat) (w : World) :
    Calls Tryd.prog 16 #[.int .u64 x] w fun e w' => e = .returned (.int .u64 (normN x : Nat)) ∧ w = w' := by
  by_cases h : x = 9223372036854775808
  · subst h
    go_enter Tryd.func16, Tryd.ntmps16
    go_wp2_with fail
    go_ret
    exact ⟨rfl, rfl⟩
  · have h1 : ((x : Int) == 9223372036854775808) = false := by simp; omega
    have h2 : Hid (normN x = x) := by show _ = _; unfold normN; rw [if_neg h]
    rw [h2.out]
    clear h2
    go_enter Tryd.func16, Tryd.ntmps16
    go_wp2_with fail
    go_ret
    exact ⟨rfl, rfl⟩
set_option maxRecDepth 100000 in
theorem key_calls (x : Nat) (hx : x < 18446744073709551616) (w : World) :
    Calls Tryd.prog 36 #[.int .u64 x] w fun e w' => e = .returned (.int .i64 (keyI x)) ∧ w = w' := by
  by_cases h : 9223372036854775808 ≤ x
  · have h1 : (x : Int) / 9223372036854775808 = 1 := by omega
    have h2 := andNot_top x hx
    obtain ⟨R, hR⟩ : ∃ R, R = x % 9223372036854775808 := ⟨_, rfl⟩
    rw [← hR] at h2
    have h3 : Hid (keyI x = -(R : Int)) := by show _ = _; unfold keyI; rw [if_pos h, hR]
    have h4 : R < 9223372036854775808 := by omega
    rw [h3.out]
    clear h3 hR
    go_enter Tryd.func36, Tryd.ntmps36
    go_wp2_with fail
    go_ret
    exact ⟨rfl, rfl⟩
  · have h1 : (x : Int) / 9223372036854775808 = 0 := by omega
    have h3 : Hid (keyI x = (x : Int)) := by show _ = _; unfold keyI; rw [if_neg h]
    have h4 : x < 9223372036854775808 := by omega
    rw [h3.out]
    clear h3 h
    go_enter Tryd.func36, Tryd.ntmps36
    go_wp2_with fail
    go_ret
    exact ⟨rfl, rfl⟩
theorem isNaN_calls (a : Int) (w : World) :
    Calls Tryd.prog 55 #[.int .i64 a] w fun e w' => e = .returned (.bool false) ∧ w = w' := by
  go_enter Tryd.func55, Tryd.ntmps55
  go_wp2
  go_ret
  exact ⟨rfl, rfl⟩
theorem compare_calls (a b : Int) (w : World) :
    Calls Tryd.prog 35 #[.int .i64 a, .int .i64 b] w fun e w' => e = .returned (.int .i64 (sgz (a - b))) ∧ w = w' := by
  rcases Int.lt_trichotomy a b with h | h | h
  · have hz : Hid (sgz (a - b) = -1) := by show _ = _; unfold sgz; rw [if_pos (by omega)]
    rw [hz.out]
    clear hz
    go_enter Tryd.func35, Tryd.ntmps35
    go_wp2_with (first | (go_at_call_of 55 (Value.int .i64 a); refine (isNaN_calls a _).mono ?_; rintro e w' ⟨rfl, rfl⟩) | (go_at_call_of 55 (Value.int .i64 b); refine (isNaN_calls b _).mono ?_; rintro e w' ⟨rfl, rfl⟩))
    go_ret
    exact ⟨rfl, rfl⟩
  · subst h
    have hz : Hid (sgz (a - a) = 0) := by show _ = _; rw [Int.sub_self]; rfl
    rw [hz.out]
    clear hz
    go_enter Tryd.func35, Tryd.ntmps35
    go_wp2_with ((go_at_call 55; refine (isNaN_calls a _).mono ?_; rintro e w' ⟨rfl, rfl⟩))
    go_ret
    exact ⟨rfl, rfl⟩
  · have hz : Hid (sgz (a - b) = 1) := by show _ = _; unfold sgz; rw [if_neg (by omega), if_neg (by omega)]
    rw [hz.out]
    have h2 : ¬ a < b := by omega
    clear hz
    go_enter Tryd.func35, Tryd.ntmps35
    go_wp2_with (first | (go_at_call_of 55 (Value.int .i64 a); refine (isNaN_calls a _).mono ?_; rintro e w' ⟨rfl, rfl⟩) | (go_at_call_of 55 (Value.int .i64 b); refine (isNaN_calls b _).mono ?_; rintro e w' ⟨rfl, rfl⟩))
    go_ret
    exact ⟨rfl, rfl⟩
/-- What float.Cmp answers. -/
def CmpIs (a b : Nat) (v : Value) : Prop := (finB a = true ∧ finB b = true ∧ v = .tuple #[.int .i64 (sgz (val a - val b)), .nilIface]) ∨ ((finB a = false ∨ finB b = false) ∧ v = .tuple #[.int .i64 0, errN 1])
set_option maxRecDepth 100000 in
theorem fcmp_calls (a b : Nat) (ha : a < 18446744073709551616) (hb : b < 18446744073709551616) (w : World) :
    Calls Tryd.prog 9 #[.int .u64 a, .int .u64 b] w fun e w' => ∃ v, e = .returned v ∧ CmpIs a b v ∧ w = w' := by
  have ca := Lib.hid (ffinite_calls a ha)
  have cb := Lib.hid (ffinite_calls b hb)
  have ka := Lib.hid (key_calls a ha)
  have kb := Lib.hid (key_calls b hb)
  obtain ⟨fa, hfa⟩ : ∃ fa, fa = finB a := ⟨_, rfl⟩
  obtain ⟨fb, hfb⟩ : ∃ fb, fb = finB b := ⟨_, rfl⟩
  have hk : Hid (fa = true → fb = true → sgz (keyI a - keyI b) = sgz (val a - val b)) := fun h1 h2 => key_sgz ha hb ((finB_iff a).1 (hfa ▸ h1)) ((finB_iff b).1 (hfb ▸ h2))
  rw [← hfa] at ca
  rw [← hfb] at cb
  have hfa' := Lib.hid hfa
  have hfb' := Lib.hid hfb
  clear hfa hfb ha hb
  go_enter Tryd.func9, Tryd.ntmps9
  go_wp2_with fail
  refine (ca.out _).mono ?_
  rintro e w' ⟨rfl, rfl⟩
  cases fa with
  | false =>
    go_wp2_with fail
    go_ret2
    exact ⟨_, rfl, .inr ⟨.inl hfa'.out.symm, rfl⟩, rfl⟩
  | true =>
    go_wp2_with fail
    refine (cb.out _).mono ?_
    rintro e w' ⟨rfl, rfl⟩
    cases fb with
    | false =>
      go_wp2_with fail
      go_ret2
      exact ⟨_, rfl, .inr ⟨.inr hfb'.out.symm, rfl⟩, rfl⟩
    | true =>
      have hk' : Hid (sgz (keyI a - keyI b) = sgz (val a - val b)) := hk.out (by trivial) (by trivial)
      clear hk
      go_wp2_with fail
      refine (ka.out _).mono ?_
      rintro e w' ⟨rfl, rfl⟩
      go_wp2_with fail
      refine (kb.out _).mono ?_
      rintro e w' ⟨rfl, rfl⟩
      go_wp2_with fail
      refine (compare_calls _ _ _).mono ?_
      rintro e w' ⟨rfl, rfl⟩
      go_wp2_with fail
      go_ret2
      exact ⟨_, rfl, .inl ⟨hfa'.out.symm, hfb'.out.symm, by rw [← hk'.out]; rfl⟩, rfl⟩
end Go.Proofs.YtmkpeihcchdjcaaDoor
