/- Floats: what an operation gives; the walks of the small functions. -/
import Derived.Test.YtmkpeihcchdjcaaProg
import Derived.KernelRfl
import Derived.WalkKit
import Derived.WalkLawsBesides
import Derived.Laws.Cover2
import Derived.Laws.FloatArith
import Derived.Lib.Hide
import Derived.Below
import Derived.WalkSmall
import Derived.Deep.Draws
import Derived.Deep.QuietTactic
import Derived.BigQuiet
set_option linter.unusedVariables false
set_option linter.unusedSimpArgs false
namespace Go.Proofs.Ytmkpeihcchdjcaa
open Go.RowKit

/-- Is a word one of no number? -/
def nanB (x : Nat) : Bool := (Ieee.double.read x).isNaN
/-- What an operation may give: the word that it has, or, where it has none, some word of no number. -/
def FR (f : Nat → Nat → Option Nat) (x y r : Nat) : Prop := (f x y = some r ∨ (f x y = none ∧ nanB r = true)) ∧ r < 18446744073709551616
theorem nan_lt (t : Nat) : (t % 2) * 2 ^ 63 + 0x7ff0000000000000 + 1 + (t / 2) % (2 ^ 52 - 1) < 18446744073709551616 := by
  have h1 : t % 2 < 2 := Nat.mod_lt _ (by omega)
  have h2 : (t / 2) % (2 ^ 52 - 1) < 2 ^ 52 - 1 := Nat.mod_lt _ (by decide)
  have e1 : (2 : Nat) ^ 63 = 9223372036854775808 := by decide
  have e2 : (2 : Nat) ^ 52 - 1 = 4503599627370495 := by decide
  rw [e2] at h2 ⊢
  rw [e1]
  generalize t % 2 = a at *
  generalize (t / 2) % 4503599627370495 = b at *
  omega

theorem dbl_sign : Ieee.double.signWeight = 9223372036854775808 := by decide
theorem dbl_binade : Ieee.double.binade = 4503599627370496 := by decide
theorem dbl_inf : Ieee.double.infRung = 9218868437227405312 := by decide
theorem nan_word' (a b : Nat) (ha : a < 2) (hb : b < 4503599627370495) : nanB (a * 9223372036854775808 + 9218868437227405312 + 1 + b) = true := by
  have e : (a * 9223372036854775808 + 9218868437227405312 + 1 + b) % 9223372036854775808 = 9218868437227405312 + 1 + b := by omega
  unfold nanB Ieee.Format.read
  simp only [dbl_sign, dbl_binade, dbl_inf, e]
  rw [if_neg (by omega), if_neg (by omega), if_neg (by omega)]
  rfl
theorem nan_word (t : Nat) : nanB ((t % 2) * 2 ^ 63 + 0x7ff0000000000000 + 1 + (t / 2) % (2 ^ 52 - 1)) = true :=
  nan_word' (t % 2) ((t / 2) % 4503599627370495) (Nat.mod_lt _ (by omega)) (Nat.mod_lt _ (by omega))

theorem run_float {P : Program} (op : BinOp) (f : Nat → Nat → Option Nat) (hf : (op = .add ∧ f = Ieee.double.add) ∨ (op = .sub ∧ f = Ieee.double.sub) ∨ (op = .mul ∧ f = Ieee.double.mul)) (t : TypeId) (x y : Nat) (w : World) :
    ∃ r n, (binOp op t (.float .f64 x) (.float .f64 y)).run P w = .ok (.float .f64 r) (w.drewN n) ∧ FR f x y r := by
  cases h : f x y with
  | some r =>
    have hlt : r < 18446744073709551616 := by
      rcases hf with ⟨rfl, rfl⟩ | ⟨rfl, rfl⟩ | ⟨rfl, rfl⟩
      · exact Ieee.double.add_lt h
      · exact Ieee.double.sub_lt h
      · exact Ieee.double.mul_lt h
    refine ⟨r, 0, ?_, .inl h, hlt⟩
    rcases hf with ⟨rfl, rfl⟩ | ⟨rfl, rfl⟩ | ⟨rfl, rfl⟩
    all_goals exact run_float_arith w _ t .f64 x y r h
  | none =>
    refine ⟨_, 1, ?_, .inr ⟨h, nan_word (w.tape w.drawn (.nanBits .f64 x y))⟩, nan_lt _⟩
    have key : (choose (.nanBits .f64 x y)).run P w = .ok ((w.tape w.drawn (.nanBits .f64 x y) % 2) * 2 ^ 63 + 0x7ff0000000000000 + 1 + (w.tape w.drawn (.nanBits .f64 x y) / 2) % (2 ^ 52 - 1)) (w.drewN 1) := rfl
    rcases hf with ⟨rfl, rfl⟩ | ⟨rfl, rfl⟩ | ⟨rfl, rfl⟩
    all_goals
      simp only [binOp, Op.floatArith, FloatKind.format, h, ne_eq, not_true_eq_false, if_false, Sem.run_bind, Sem.run_pure, Result.andThen, key]

/-- The same, where the operation is guarded and wanted. -/
theorem wpList_floatg {P : Program} (w : World) {ops : Array Oper} {rest : List Oper} {o : Oper} {a : Act} {Q : Exit → Act → World → Prop} (hgd : Region.wanted o (yielded ops a.tmps) = true) (op : BinOp) (f : Nat → Nat → Option Nat)
    (hf : (op = .add ∧ f = Ieee.double.add) ∨ (op = .sub ∧ f = Ieee.double.sub) ∨ (op = .mul ∧ f = Ieee.double.mul)) (t t' : TypeId) (s1 s2 : Operand)
    (ho : o.op = .binOp op t s1 s2 t') (x y : Nat) (h1 : a.eval s1 = .float .f64 x) (h2 : a.eval s2 = .float .f64 y)
    (h : ∀ r n, FR f x y r → wpList P ops Q rest (a.put o.dst (.float .f64 r)) (w.drewN n)) : wpList P ops Q (o :: rest) a w := by
  obtain ⟨r, n, hrun, hr⟩ := run_float (P := P) op f hf t x y w
  refine wpList_step fun K hK => ?_
  rw [if_pos hgd]
  unfold Oper.wp
  rcases hf with ⟨rfl, rfl⟩ | ⟨rfl, rfl⟩ | ⟨rfl, rfl⟩
  all_goals
    simp [execOp, ho, h1, h2, eqGuard, hrun, Result.andThen]
    exact hK _ _ (h r n hr)
/-- An operation on floats, as the walk meets it. -/
theorem wpList_float {P : Program} (w : World) {ops : Array Oper} {rest : List Oper} {o : Oper} {a : Act} {Q : Exit → Act → World → Prop} (hgd : o.guard = none) (op : BinOp) (f : Nat → Nat → Option Nat)
    (hf : (op = .add ∧ f = Ieee.double.add) ∨ (op = .sub ∧ f = Ieee.double.sub) ∨ (op = .mul ∧ f = Ieee.double.mul)) (t t' : TypeId) (s1 s2 : Operand)
    (ho : o.op = .binOp op t s1 s2 t') (x y : Nat) (h1 : a.eval s1 = .float .f64 x) (h2 : a.eval s2 = .float .f64 y)
    (h : ∀ r n, FR f x y r → wpList P ops Q rest (a.put o.dst (.float .f64 r)) (w.drewN n)) : wpList P ops Q (o :: rest) a w := by
  obtain ⟨r, n, hrun, hr⟩ := run_float (P := P) op f hf t x y w
  refine wpList_plain hgd fun K hK => ?_
  unfold Oper.wp
  rcases hf with ⟨rfl, rfl⟩ | ⟨rfl, rfl⟩ | ⟨rfl, rfl⟩
  all_goals
    simp [execOp, ho, h1, h2, eqGuard, hrun, Result.andThen]
    exact hK _ _ (h r n hr)

theorem run_frombits (x : Nat) (w : World) : (callFunc 64 #[.int .u64 x]).run Try.prog w = .ok (.value (.float .f64 x)) w := by kernel_rfl
theorem run_bits (x : Nat) (w : World) : (callFunc 18 #[.float .f64 x]).run Try.prog w = .ok (.value (.int .u64 x)) w := by kernel_rfl

set_option maxRecDepth 100000 in
theorem of_calls (x y : Nat) (w : World) :
    Calls Try.prog 38 #[.agg #[.int .u64 x, .int .u64 y]] w fun e w' => e = .returned (.tuple #[.float .f64 x, .float .f64 y]) ∧ Below w.heap.size w w' := by
  have h1 := run_frombits x
  have h2 := run_frombits y
  go_enter Try.func38, Try.ntmps38
  go_wp2
  go_quiet (fail)
  go_wp2
  go_ret2
  exact ⟨rfl, below_drewN ((Below.refl _ w).alloc (Nat.le_refl _) _) _⟩

theorem abs_bits (x : Nat) (h : x < 18446744073709551616) : bits .andNot .u64 (x : Int) 9223372036854775808 = ((x % 9223372036854775808 : Nat) : Int) := by
  have e := u64_andNot_nat x 9223372036854775808 h (by omega)
  have e2 : x &&& (18446744073709551615 - 9223372036854775808) = x % 9223372036854775808 := Nat.and_two_pow_sub_one_eq_mod x 63
  rw [e2] at e
  exact e
/-- A word without its sign. -/
def absB (x : Nat) : Nat := x % 9223372036854775808
set_option maxRecDepth 100000 in
theorem abs_calls (x : Nat) (h : x < 18446744073709551616) (w : World) :
    Calls Try.prog 40 #[.float .f64 x] w fun e w' => e = .returned (.float .f64 (absB x)) ∧ w = w' := by
  have h1 := run_bits x
  have h3 := abs_bits x h
  obtain ⟨y, hy⟩ : ∃ y, y = x % 9223372036854775808 := ⟨_, rfl⟩
  have hy' : Hid (absB x = y) := hy.symm
  rw [← hy] at h3
  have h2 := run_frombits y
  clear hy
  go_enter Try.func40, Try.ntmps40
  go_wp2
  go_ret
  exact ⟨by rw [hy'.out]; rfl, rfl⟩

theorem mul_calls (x y : Nat) (w : World) :
    Calls Try.prog 39 #[.float .f64 x, .float .f64 y] w fun e w' => ∃ r n, e = .returned (.float .f64 r) ∧ FR Ieee.double.mul x y r ∧ w' = w.drewN n := by
  go_enter Try.func39, Try.ntmps39
  go_wp2_with (refine wpList_float (o := ⟨some 7, _, _, _, _, _⟩) _ rfl .mul Ieee.double.mul (by simp) _ _ _ _ rfl x y rfl rfl ?_; intro r n hr; have hr' := Lib.hid hr; clear hr)
  go_ret
  exact ⟨r, n, rfl, hr'.out, rfl⟩

/-- Does a sum count? -/
def sureB (s : Nat) : Bool := (Ieee.double.order s 553942754166571008 == some .gt || Ieee.double.order s 553942754166571008 == some .eq) && (Ieee.double.order s 9218868437227405311 == some .lt || Ieee.double.order s 9218868437227405311 == some .eq)
set_option maxRecDepth 100000 in
theorem sure_calls (s : Nat) (w : World) :
    Calls Try.prog 41 #[.float .f64 s] w fun e w' => e = .returned (.bool (sureB s)) ∧ w = w' := by
  cases hA : (Ieee.double.order s 553942754166571008 == some .gt || Ieee.double.order s 553942754166571008 == some .eq) with
  | true =>
    have hA' : (FloatKind.f64.format.order s 553942754166571008 == some .gt || FloatKind.f64.format.order s 553942754166571008 == some .eq) = true := hA
    have hA2 := Lib.hid hA
    clear hA
    go_enter Try.func41, Try.ntmps41
    go_wp2
    go_ret
    exact ⟨by unfold sureB; rw [hA2.out]; rfl, rfl⟩
  | false =>
    have hA' : (FloatKind.f64.format.order s 553942754166571008 == some .gt || FloatKind.f64.format.order s 553942754166571008 == some .eq) = false := hA
    have hA2 := Lib.hid hA
    clear hA
    go_enter Try.func41, Try.ntmps41
    go_wp2
    go_ret
    exact ⟨by unfold sureB; rw [hA2.out]; rfl, rfl⟩

theorem isnan_calls (s : Nat) (w : World) :
    Calls Try.prog 65 #[.float .f64 s] w fun e w' => e = .returned (.bool (Ieee.double.order s s != some .eq)) ∧ w = w' := by
  go_enter Try.func65, Try.ntmps65
  go_wp2
  go_ret
  exact ⟨rfl, rfl⟩
/-- How a number stands to nought. -/
def signO (d : Nat) : Int := match Ieee.double.order d 0 with | some .lt => -1 | some .gt => 1 | _ => 0
theorem ord_zero : Ieee.double.order 0 0 = some .eq := by decide
theorem datum_order_self (x : Ieee.Datum) (h : x.isNaN = false) : x.order x = some .eq := by
  cases x with
  | number s m e => simp [Ieee.Datum.order, Std.ReflCmp.compare_self]
  | infinity s => simp [Ieee.Datum.order, Std.ReflCmp.compare_self]
  | nan s f => simp [Ieee.Datum.isNaN] at h
theorem order_self (d : Nat) (hd : nanB d = false) : Ieee.double.order d d = some .eq := datum_order_self _ hd
theorem isnan_no (s : Nat) (hs : nanB s = false) (w : World) :
    Calls Try.prog 65 #[.float .f64 s] w fun e w' => e = .returned (.bool false) ∧ w = w' := by
  refine (isnan_calls s w).mono ?_
  rintro e w' ⟨rfl, rfl⟩
  rw [order_self s hs]
  exact ⟨rfl, rfl⟩
set_option maxRecDepth 100000 in
theorem compare_calls (d : Nat) (hd : nanB d = false) (w : World) :
    Calls Try.prog 42 #[.float .f64 d, .float .f64 0] w fun e w' => e = .returned (.int .i64 (signO d)) ∧ w = w' := by
  have c1 := Lib.hid (isnan_no d hd)
  have c2 := Lib.hid (isnan_no 0 (by decide))
  clear hd
  rcases hO : Ieee.double.order d 0 with _ | o
  · have h3 : (FloatKind.f64.format.order d 0 == some .lt) = false := by show (Ieee.double.order d 0 == some .lt) = false; rw [hO]; rfl
    have h4 : (FloatKind.f64.format.order d 0 == some .gt) = false := by show (Ieee.double.order d 0 == some .gt) = false; rw [hO]; rfl
    have hs : Hid (signO d = 0) := by show signO d = 0; unfold signO; rw [hO]
    clear hO
    go_enter Try.func42, Try.ntmps42
    go_wp2_with fail
    refine (c1.out w).mono ?_
    rintro e w' ⟨rfl, rfl⟩
    go_wp2_with fail
    refine (c2.out w).mono ?_
    rintro e w' ⟨rfl, rfl⟩
    go_wp2_with fail
    go_ret
    exact ⟨by rw [hs.out]; rfl, rfl⟩
  · cases o with
    | lt =>
      have h3 : (FloatKind.f64.format.order d 0 == some .lt) = true := by show (Ieee.double.order d 0 == some .lt) = true; rw [hO]; rfl
      have hs : Hid (signO d = -1) := by show signO d = -1; unfold signO; rw [hO]
      clear hO
      go_enter Try.func42, Try.ntmps42
      go_wp2_with fail
      refine (c1.out w).mono ?_
      rintro e w' ⟨rfl, rfl⟩
      go_wp2_with fail
      refine (c2.out w).mono ?_
      rintro e w' ⟨rfl, rfl⟩
      go_wp2_with fail
      go_ret
      exact ⟨by rw [hs.out]; rfl, rfl⟩
    | eq =>
      have h3 : (FloatKind.f64.format.order d 0 == some .lt) = false := by show (Ieee.double.order d 0 == some .lt) = false; rw [hO]; rfl
      have h4 : (FloatKind.f64.format.order d 0 == some .gt) = false := by show (Ieee.double.order d 0 == some .gt) = false; rw [hO]; rfl
      have hs : Hid (signO d = 0) := by show signO d = 0; unfold signO; rw [hO]
      clear hO
      go_enter Try.func42, Try.ntmps42
      go_wp2_with fail
      refine (c1.out w).mono ?_
      rintro e w' ⟨rfl, rfl⟩
      go_wp2_with fail
      refine (c2.out w).mono ?_
      rintro e w' ⟨rfl, rfl⟩
      go_wp2_with fail
      go_ret
      exact ⟨by rw [hs.out]; rfl, rfl⟩
    | gt =>
      have h3 : (FloatKind.f64.format.order d 0 == some .lt) = false := by show (Ieee.double.order d 0 == some .lt) = false; rw [hO]; rfl
      have h4 : (FloatKind.f64.format.order d 0 == some .gt) = true := by show (Ieee.double.order d 0 == some .gt) = true; rw [hO]; rfl
      have hs : Hid (signO d = 1) := by show signO d = 1; unfold signO; rw [hO]
      clear hO
      go_enter Try.func42, Try.ntmps42
      go_wp2_with fail
      refine (c1.out w).mono ?_
      rintro e w' ⟨rfl, rfl⟩
      go_wp2_with fail
      refine (c2.out w).mono ?_
      rintro e w' ⟨rfl, rfl⟩
      go_wp2_with fail
      go_ret
      exact ⟨by rw [hs.out]; rfl, rfl⟩
end Go.Proofs.Ytmkpeihcchdjcaa
