/- The walks of nat.Sub (where there is none) and nat.Mul. -/
import Derived.Test.YtmobnjlbbhhedaaGreatDoorNatB
import Derived.Test.YtmobnjlbbhhedaaGreatDoorNumB
import Derived.Lib.Mul64
set_option linter.unusedVariables false
set_option linter.unusedSimpArgs false
namespace Go.Proofs.YtmobnjlbbhhedaaGreatDoor
open Go.RowKit
attribute [local go_sem high] run_max_nat run_min_nat

theorem maskN (a : Nat) (ha : a < 18446744073709551616) : bits .and .u64 (a : Int) 4294967295 = ((a % 4294967296 : Nat) : Int) := by
  have h := bits_and_u64_nat a 4294967295 ha (by omega)
  rw [Nat.and_two_pow_sub_one_eq_mod a 32] at h
  exact h
theorem divN (a : Nat) : ((a : Int) / 4294967296) = ((a / 4294967296 : Nat) : Int) := by omega
theorem mulN (a b : Nat) : (a : Int) * (b : Int) = ((a * b : Nat) : Int) := (Int.natCast_mul a b).symm
theorem addN (a b : Nat) : (a : Int) + (b : Int) = ((a + b : Nat) : Int) := (Int.natCast_add a b).symm
theorem wrapN (a : Nat) (ha : a < 18446744073709551616) : IntKind.u64.wrap (a : Int) = (a : Int) := by rw [IntKind.wrap_u64]; omega
theorem wrapM (a : Nat) : IntKind.u64.wrap (a : Int) = ((a % 18446744073709551616 : Nat) : Int) := by rw [IntKind.wrap_u64]; omega

set_option maxHeartbeats 1000000 in
theorem mul64_calls (x y : Nat) (hx : x < B64) (hy : y < B64) (w : World) :
    Calls Tryz.prog 76 #[.int .u64 x, .int .u64 y] w fun e w' => e = .returned (.tuple #[.int .u64 (x * y / B64 : Nat), .int .u64 (x * y % B64 : Nat)]) ∧ w = w' := by
  rw [B64_eq] at hx hy ⊢
  obtain ⟨bd, bt, bw, hhi⟩ := Lib.mul64_hi x y hx hy
  have ba := Lib.half_mul_le (a := x / 4294967296) (b := y / 4294967296) (by omega) (by omega)
  have bb := Lib.half_mul_le (a := x / 4294967296) (b := y % 4294967296) (by omega) (by omega)
  have bc := Lib.half_mul_le (a := x % 4294967296) (b := y / 4294967296) (by omega) (by omega)
  have ba' : x / 4294967296 * (y / 4294967296) < 18446744073709551616 := by omega
  have bb' : x / 4294967296 * (y % 4294967296) < 18446744073709551616 := by omega
  have bc' : x % 4294967296 * (y / 4294967296) < 18446744073709551616 := by omega
  have bh1 : x / 4294967296 * (y / 4294967296) + (x / 4294967296 * (y % 4294967296) + x % 4294967296 * (y % 4294967296) / 4294967296) / 4294967296 < 18446744073709551616 := by omega
  have bh : x / 4294967296 * (y / 4294967296) + (x / 4294967296 * (y % 4294967296) + x % 4294967296 * (y % 4294967296) / 4294967296) / 4294967296 + ((x / 4294967296 * (y % 4294967296) + x % 4294967296 * (y % 4294967296) / 4294967296) % 4294967296 + x % 4294967296 * (y / 4294967296)) / 4294967296 < 18446744073709551616 := by omega
  go_enter Tryz.func76, Tryz.ntmps76
  go_wp2
  simp only [maskN x hx, maskN y hy, maskN _ bt, divN, mulN, addN, wrapN _ bd, wrapN _ bb', wrapN _ bt, wrapN _ bc', wrapN _ bw, wrapN _ ba', wrapN _ bh1, wrapN _ bh, wrapM (x * y)]
  rw [hhi]
  go_ret2
  exact ⟨rfl, rfl⟩

set_option maxHeartbeats 2000000 in
set_option maxRecDepth 100000 in
theorem natMul_calls (v u : Value) (X Y n m : Nat) (w : World) (h : Num .u64 B64 w v X n) (k : Num .u64 B64 w u Y m) (hnm : ∀ a b, IsLen B64 X a → IsLen B64 Y b → a + b ≤ 1024) :
    Calls Tryz.prog 48 #[v, u] w fun e w' => ∃ A r, e = .returned (.tuple #[.slice A r r, .nilIface]) ∧ Num .u64 B64 w' (.slice A r r) (X * Y) r ∧ IsLen B64 (X * Y) r ∧ Below w.heap.size w w' := by
  have H := Lib.hid h
  have K := Lib.hid k
  clear h k
  go_enter Tryz.func48, Tryz.ntmps48
  go_wp2_with fail
  refine (natPlain_calls v n X w H.out).mono ?_
  rintro e w' ⟨A, a, rfl, rfl, ha, HA, hla⟩
  go_wp2_with fail
  refine (natPlain_calls u m Y w K.out).mono ?_
  rintro e w' ⟨B, b, rfl, rfl, hb, HB, hlb⟩
  clear H K
  have hab := hnm a b hla hlb
  clear hnm ha hb
  have HA' := Lib.hid HA
  have HB' := Lib.hid HB
  have hla' := Lib.hid hla
  have hlb' := Lib.hid hlb
  clear HA HB hla hlb
  have hmk := run_make_row' (P := Tryz.prog) 22 79 (.int .u64 0) 8 Tryz.underlying22 info64 rfl .i64 .i64 (a + b) (by omega) (by omega)
  have ec : ((a + b : Nat) : Int) = (a : Int) + (b : Int) := by omega
  rw [ec] at hmk
  clear ec
  go_wp2_with fail
  clear hmk
  go_loopw [34] (fun v34 wr => ∃ i R : Nat, v34 = .int .i64 i ∧ i ≤ a ∧ Hid (R = X % B64 ^ i * Y) ∧ Hid (Row .u64 B64 79 wr w.heap.size (a + b) R) ∧ Hid (Below w.heap.size w wr)) (fun v _ => a - (intOf v).toNat)
  case atStart =>
    refine ⟨0, 0, rfl, Nat.zero_le _, ?_, Row.made B64_pos _ _ _, ((Below.refl _ _).alloc (Nat.le_refl _) _)⟩
    show 0 = X % B64 ^ 0 * Y
    rw [Nat.pow_zero, Nat.mod_one, Nat.zero_mul]
  case round =>
    obtain ⟨i, R, rfl, hi, hR, hrow, hbel⟩ := hrel
    by_cases hlt : i < a
    · obtain ⟨ad, rfl, hca⟩ := (HA'.out.below hbel.out).cell hlt
      go_wp2_with fail
      obtain ⟨wo, rfl⟩ : ∃ wo : World, wo = wr := ⟨_, rfl⟩
      go_loopw [9, 41] (fun v9 v41 wr => ∃ j R c : Nat, v41 = .int .i64 j ∧ j ≤ b ∧ v9 = .int .u64 c ∧ Hid (c < B64) ∧ Hid (R < B64 ^ (i + b)) ∧ Hid (R + c * B64 ^ (i + j) = X % B64 ^ i * Y + dig B64 X i * B64 ^ i * (Y % B64 ^ j)) ∧ Hid (Row .u64 B64 79 wr w.heap.size (a + b) R) ∧ Hid (Below w.heap.size w wr)) (fun _ v _ => b - (intOf v).toNat)
      case atStart =>
        refine ⟨0, R, 0, rfl, Nat.zero_le _, rfl, B64_pos, ?_, ?_, hrow, hbel⟩
        · show R < B64 ^ (i + b)
          rw [hR.out]
          exact mul_lt_pow (Nat.mod_lt _ (Nat.pow_pos B64_pos)) hlb'.out.1
        · show R + 0 * _ = _
          rw [hR.out, Nat.pow_zero, Nat.mod_one, Nat.zero_mul, Nat.mul_zero]
      case round =>
        clear hR hrow hbel R
        obtain ⟨j, R, c, rfl, hj, rfl, hc, hRlt, hinv, hrow, hbel⟩ := hrel
        by_cases hjb : j < b
        · obtain ⟨hi_, lo, l1, c1, h1, l2, c2, c', e1, e2, e3, e4, e5, b5, e6, e7, e8, b8, bl2, hstep⟩ := mul_step (dig_lt B64_pos X i) (dig_lt B64_pos Y j) (dig_lt B64_pos R (i + j)) hc.out
          have hmul := mul64_calls (dig B64 X i) (dig B64 Y j) (dig_lt B64_pos X i) (dig_lt B64_pos Y j)
          rw [← e1, ← e2] at hmul
          have hadd1 := fun w => run_Add64 lo (dig B64 R (i + j)) 0 (by omega) w
          rw [← e3, ← e4, show ((0 : Nat) : Int) = 0 from rfl] at hadd1
          have hadd2 := fun w => run_Add64 l1 c 0 (by omega) w
          rw [← e6, ← e7, show ((0 : Nat) : Int) = 0 from rfl] at hadd2
          have hw1 : IntKind.u64.wrap ((hi_ : Int) + (c1 : Int)) = (h1 : Int) := by
            have : (hi_ : Int) + (c1 : Int) = (h1 : Nat) := by omega
            rw [this]
            exact wrapN h1 b5
          have hw2 : IntKind.u64.wrap ((h1 : Int) + (c2 : Int)) = (c' : Int) := by
            have : (h1 : Int) + (c2 : Int) = (c' : Nat) := by omega
            rw [this]
            exact wrapN c' b8
          have hstep' := Lib.hid hstep
          have b8' := Lib.hid b8
          have bl2' := Lib.hid bl2
          clear e1 e2 e3 e4 e5 b5 e6 e7 e8 b8 bl2 hstep
          obtain ⟨bd, rfl, hcb⟩ := (HB'.out.below hbel.out).cell hjb
          have hcell := hrow.out.cell (show i + j < a + b by omega)
          have hfz := hrow.out.frozen (i + j)
          go_wp2_with fail
          refine (hmul _).mono ?_
          rintro e w' ⟨rfl, rfl⟩
          go_wp2_with fail
          go_roundw
          case rel =>
            refine ⟨j + 1, put B64 R (i + j) l2, c', by go_num, by omega, rfl, b8'.out, ?_, mul_inner hinv.out hstep'.out, ?_, hbel.out.setCell (Nat.le_refl _) _⟩
            · exact put_lt B64_pos bl2'.out (by omega) hRlt.out
            · exact hrow.out.set (i + j) l2 _ (put_lt B64_pos bl2'.out (by omega) hrow.out.2) (dig_put B64_pos bl2'.out)
          case measure => simp [intOf]; omega
        · obtain rfl : j = b := by omega
          have hend := Lib.hid (mul_outer hlb'.out.1 hinv.out)
          clear hinv
          by_cases hb0 : 0 < j
          · have hcell := hrow.out.cell (show i + j < a + j by omega)
            have hfz := hrow.out.frozen (i + j)
            go_wp2_with fail
            go_roundw
            case rel =>
              refine ⟨i + 1, put B64 R (i + j) c, by go_num, by omega, ?_, ?_, hbel.out.setCell (Nat.le_refl _) _⟩
              · show put B64 R (i + j) c = _
                rw [put_top B64_pos hRlt.out, hend.out]
              · exact hrow.out.set (i + j) c _ (put_lt B64_pos hc.out (by omega) hrow.out.2) (dig_put B64_pos hc.out)
            case measure => simp [intOf]; omega
          · obtain rfl : j = 0 := by omega
            go_wp2_with fail
            go_roundw
            case rel =>
              refine ⟨i + 1, R, by go_num, by omega, ?_, hrow, hbel⟩
              show R = _
              have h2 := hlb'.out.1
              have hY : Y = 0 := by simpa using h2
              have h3 := hend.out
              rw [hY, Nat.mul_zero] at h3 ⊢
              exact (Nat.add_eq_zero_iff.1 h3).1
            case measure => simp [intOf]; omega
    · obtain rfl : i = a := by omega
      have hend : Hid (R = X * Y) := by
        show R = X * Y
        rw [hR.out, Nat.mod_eq_of_lt hla'.out.1]
      clear hR
      go_wp2_with fail
      refine (natPlain_calls _ (i + b) (X * Y) wr ?_).mono ?_
      · have hr := hrow.out.num (by omega)
        rw [hend.out] at hr
        exact hr
      rintro e w' ⟨C, r, rfl, rfl, hr, HC, hlc⟩
      go_wp2
      go_ret2
      exact ⟨C, r, rfl, HC, hlc, hbel.out⟩
end Go.Proofs.YtmobnjlbbhhedaaGreatDoor
