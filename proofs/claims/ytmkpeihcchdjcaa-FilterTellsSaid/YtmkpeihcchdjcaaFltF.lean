/- math.Ldexp at 1, math.Inf; outriggerref07's Floats and Far. -/
import Derived.Test.YtmkpeihcchdjcaaFltE
set_option linter.unusedVariables false
set_option linter.unusedSimpArgs false
namespace Go.Proofs.Ytmkpeihcchdjcaa
open Go.RowKit

set_option maxRecDepth 100000 in
theorem norm_calls (w : World) :
    Calls Try.prog 78 #[.float .f64 4607182418800017408] w fun e w' => e = .returned (.tuple #[.float .f64 4607182418800017408, .int .i64 0]) ∧ w = w' := by
  have h1 : (FloatKind.f64.format.order (absB 4607182418800017408) 4503599627370496 == some .lt) = false := by decide +kernel
  go_enter Try.func78, Try.ntmps78
  go_wp2_with fail
  refine (abs_calls 4607182418800017408 (by omega) _).mono ?_
  rintro e w' ⟨rfl, rfl⟩
  go_wp2_with fail
  go_ret2
  exact ⟨rfl, rfl⟩
set_option maxRecDepth 100000 in
theorem isinf_calls (w : World) :
    Calls Try.prog 76 #[.float .f64 4607182418800017408, .int .i64 0] w fun e w' => e = .returned (.bool false) ∧ w = w' := by
  have h1 : (FloatKind.f64.format.order (absB 4607182418800017408) 9218868437227405311 == some .gt) = false := by decide +kernel
  go_enter Try.func76, Try.ntmps76
  go_wp2_with fail
  refine (abs_calls 4607182418800017408 (by omega) _).mono ?_
  rintro e w' ⟨rfl, rfl⟩
  go_wp2_with fail
  go_ret
  exact ⟨rfl, rfl⟩
set_option maxRecDepth 100000 in
theorem isnan1_calls (w : World) :
    Calls Try.prog 77 #[.float .f64 4607182418800017408] w fun e w' => e = .returned (.bool false) ∧ w = w' := by
  have h1 : (FloatKind.f64.format.order 4607182418800017408 4607182418800017408 == some .eq) = true := by decide +kernel
  go_enter Try.func77, Try.ntmps77
  go_wp2_with fail
  go_ret
  exact ⟨rfl, rfl⟩
set_option maxRecDepth 100000 in
theorem inf_calls (w : World) :
    Calls Try.prog 71 #[.int .i64 1] w fun e w' => e = .returned (.float .f64 9218868437227405312) ∧ w = w' := by
  have h1 : ∀ w, (callFunc 64 #[.int .u64 9218868437227405312]).run Try.prog w = .ok (.value (.float .f64 9218868437227405312)) w := run_frombits 9218868437227405312
  go_enter Try.func71, Try.ntmps71
  go_wp2_with fail
  go_ret
  exact ⟨rfl, rfl⟩
set_option maxRecDepth 100000 in
theorem ldexp_calls (n : Int) (r : Nat) (hn : (n = -900 ∧ r = 553942754166571008) ∨ (n = -50 ∧ r = 4382002437431492608)) (w : World) :
    Calls Try.prog 73 #[.float .f64 4607182418800017408, .int .i64 n] w fun e w' => e = .returned (.float .f64 r) ∧ ∃ k, w' = w.drewN k := by
  have h0 : (FloatKind.f64.format.order 4607182418800017408 0 == some .eq) = false := by decide +kernel
  have h1 := run_bits 4607182418800017408
  have a1 : bits BinOp.and IntKind.i64 1023 2047 = 1023 := by decide +kernel
  have a2 : bits BinOp.andNot IntKind.u64 4607182418800017408 9218868437227405312 = 0 := by decide +kernel
  have a3 : bits BinOp.or IntKind.u64 0 553942754166571008 = 553942754166571008 := by decide +kernel
  have a4 : bits BinOp.or IntKind.u64 0 4382002437431492608 = 4382002437431492608 := by decide +kernel
  have f1 : ∀ w, (callFunc 64 #[.int .u64 553942754166571008]).run Try.prog w = .ok (.value (.float .f64 553942754166571008)) w := run_frombits 553942754166571008
  have f2 : ∀ w, (callFunc 64 #[.int .u64 4382002437431492608]).run Try.prog w = .ok (.value (.float .f64 4382002437431492608)) w := run_frombits 4382002437431492608
  go_enter Try.func73, Try.ntmps73
  go_wp2_with fail
  refine (isinf_calls _).mono ?_
  rintro e w' ⟨rfl, rfl⟩
  go_wp2_with fail
  refine (isnan1_calls _).mono ?_
  rintro e w' ⟨rfl, rfl⟩
  go_wp2_with fail
  refine (norm_calls _).mono ?_
  rintro e w' ⟨rfl, rfl⟩
  rcases hn with ⟨rfl, rfl⟩ | ⟨rfl, rfl⟩
  · go_wp2_with (refine wpList_float (o := ⟨some 62, _, _, _, _, _⟩) _ rfl .mul Ieee.double.mul (by simp) _ _ _ _ rfl 4607182418800017408 553942754166571008 rfl rfl ?_; intro r n hr; have hr' := Lib.hid hr; clear hr)
    have E := hr'.out.det (v := 553942754166571008) (by decide +kernel)
    subst E
    go_ret
    exact ⟨rfl, n, rfl⟩
  · go_wp2_with (refine wpList_float (o := ⟨some 62, _, _, _, _, _⟩) _ rfl .mul Ieee.double.mul (by simp) _ _ _ _ rfl 4607182418800017408 4382002437431492608 rfl rfl ?_; intro r n hr; have hr' := Lib.hid hr; clear hr)
    have E := hr'.out.det (v := 4382002437431492608) (by decide +kernel)
    subst E
    go_ret
    exact ⟨rfl, n, rfl⟩
set_option maxRecDepth 100000 in
theorem Ldexp_calls (n : Int) (r : Nat) (hn : (n = -900 ∧ r = 553942754166571008) ∨ (n = -50 ∧ r = 4382002437431492608)) (w : World) :
    Calls Try.prog 55 #[.float .f64 4607182418800017408, .int .i64 n] w fun e w' => e = .returned (.float .f64 r) ∧ ∃ k, w' = w.drewN k := by
  go_enter Try.func55, Try.ntmps55
  go_wp2_with fail
  refine (ldexp_calls n r hn _).mono ?_
  rintro e w' ⟨rfl, k, rfl⟩
  go_wp2_with fail
  go_ret
  exact ⟨rfl, k, rfl⟩
theorem float_calls (x : Nat) (w : World) :
    Calls Try.prog 53 #[.int .u64 x] w fun e w' => e = .returned (.float .f64 x) ∧ w = w' := by
  have h1 := run_frombits x
  go_enter Try.func53, Try.ntmps53
  go_wp2_with fail
  go_ret
  exact ⟨rfl, rfl⟩
/-- Counts, as the document has it. -/
def cntB (s : Nat) : Bool := Ieee.double.order s s == some .eq && (Ieee.double.order s 9218868437227405312 == some .lt && (Ieee.double.order s 553942754166571008 == some .gt || Ieee.double.order s 553942754166571008 == some .eq))
theorem rv_top {e R : Nat} (he : e = 2045) (h : R < 9218868437227405312) : rv R ≤ 9007199254740991 * 2 ^ e := by
  unfold rv
  have hp : 0 < (2 : Nat) ^ e := Nat.two_pow_pos _
  split
  · generalize (2 : Nat) ^ e = b at *
    omega
  · have h1 : R / 4503599627370496 - 1 ≤ e := by omega
    exact Nat.mul_le_mul (by omega) (Nat.pow_le_pow_right (by omega) h1)
theorem most_val {e : Nat} (he : e = 2045) : val 9218868437227405311 = ((9007199254740991 * 2 ^ e : Nat) : Int) := by
  rw [val_fin most_fin]
  have e1 : 9218868437227405311 / 9223372036854775808 % 2 = 0 := by decide
  have e2 : 9218868437227405311 % 9223372036854775808 = 9218868437227405311 := by decide
  have e3 : 9218868437227405311 / 4503599627370496 - 1 = e := by omega
  have e4 : 9218868437227405311 % 4503599627370496 = 4503599627370495 := by decide
  rw [e1, e2]
  have e5 : rv 9218868437227405311 = 9007199254740991 * 2 ^ e := by
    unfold rv
    rw [if_neg (by omega), e3, e4]
  rw [e5]
  simp
theorem fin_le_most {s : Nat} (h : isFin s) : val s ≤ val 9218868437227405311 := by
  obtain ⟨e, he⟩ : ∃ e, e = 2045 := ⟨_, rfl⟩
  rw [most_val he]
  have h1 := val_abs h
  have h2 := rv_top he h
  generalize 9007199254740991 * 2 ^ e = b at *
  omega
theorem order_inf {s : Nat} (h : s % 9223372036854775808 = 9218868437227405312) : (s / 9223372036854775808 % 2 == 1) = true ∧ Ieee.double.order s 553942754166571008 = some .lt ∨ (s / 9223372036854775808 % 2 == 1) = false ∧ Ieee.double.order s 553942754166571008 = some .gt ∧ Ieee.double.order s 9218868437227405311 = some .gt ∧ Ieee.double.order s 9218868437227405312 = some .eq := by
  obtain ⟨m1, e1, r1, _⟩ := read_fin least_fin
  obtain ⟨m2, e2, r2, _⟩ := read_fin most_fin
  unfold Ieee.Format.order
  rw [read_inf h, r1, r2, read_inf (x := 9218868437227405312) (by decide)]
  cases (s / 9223372036854775808 % 2 == 1)
  · exact .inr ⟨rfl, rfl, rfl, rfl⟩
  · exact .inl ⟨rfl, rfl⟩
theorem cnt_sure (s : Nat) : cntB s = sureB s := by
  unfold cntB sureB
  rcases tri s with h | h | h
  · have h1 := order_self s (fin_not_nan h)
    have h2 : Ieee.double.order s 9218868437227405312 = some .lt := by
      obtain ⟨m, i, ex, _, _⟩ := read_fin h
      unfold Ieee.Format.order
      rw [ex, read_inf (by decide)]
      rfl
    have h3 : (Ieee.double.order s 9218868437227405311 == some .lt || Ieee.double.order s 9218868437227405311 == some .eq) = true := by
      rw [order_fin h most_fin]
      have h4 := fin_le_most h
      rcases Int.lt_or_eq_of_le h4 with h5 | h5
      · rw [Int.compare_eq_lt.2 h5]; rfl
      · rw [Int.compare_eq_eq.2 h5]; rfl
    rw [h1, h2, h3, Bool.and_true]
    rfl
  · rcases order_inf h with ⟨_, h1⟩ | ⟨_, h1, h2, h3⟩
    · rw [h1]
      simp
    · rw [h1, h2, h3]
      simp
  · obtain ⟨f, hr⟩ := read_nan h
    have hn : nanB s = true := by unfold nanB; rw [hr]; rfl
    rw [order_nan_left hn, order_nan_left hn, order_nan_left hn]
    rfl
set_option maxRecDepth 100000 in
theorem counts_calls (s : Nat) (w : World) :
    Calls Try.prog 54 #[.float .f64 s] w fun e w' => e = .returned (.bool (sureB s)) ∧ ∃ k, w' = w.drewN k := by
  rw [← cnt_sure]
  unfold cntB
  cases hA : (Ieee.double.order s s == some .eq) with
  | false =>
    have hA' : (FloatKind.f64.format.order s s == some .eq) = false := hA
    go_enter Try.func54, Try.ntmps54
    go_wp2_with fail
    go_ret
    exact ⟨rfl, 0, rfl⟩
  | true =>
    have hA' : (FloatKind.f64.format.order s s == some .eq) = true := hA
    cases hB : (Ieee.double.order s 9218868437227405312 == some .lt) with
    | false =>
      have hB' : (FloatKind.f64.format.order s 9218868437227405312 == some .lt) = false := hB
      go_enter Try.func54, Try.ntmps54
      go_wp2_with fail
      refine (inf_calls _).mono ?_
      rintro e w' ⟨rfl, rfl⟩
      go_wp2_with fail
      go_ret
      exact ⟨rfl, 0, rfl⟩
    | true =>
      have hB' : (FloatKind.f64.format.order s 9218868437227405312 == some .lt) = true := hB
      go_enter Try.func54, Try.ntmps54
      go_wp2_with fail
      refine (inf_calls _).mono ?_
      rintro e w' ⟨rfl, rfl⟩
      go_wp2_with fail
      refine (Ldexp_calls (-900) _ (.inl ⟨rfl, rfl⟩) _).mono ?_
      rintro e w' ⟨rfl, k, rfl⟩
      go_wp2_with fail
      go_ret
      exact ⟨rfl, k, rfl⟩
end Go.Proofs.Ytmkpeihcchdjcaa
