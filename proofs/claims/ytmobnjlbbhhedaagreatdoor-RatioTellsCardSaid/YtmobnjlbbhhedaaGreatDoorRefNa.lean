/- The walk of the reference's Len. -/
import Derived.Test.YtmobnjlbbhhedaaGreatDoorNumC
import Derived.Test.YtmobnjlbbhhedaaGreatDoorRefA
set_option linter.unusedVariables false
set_option linter.unusedSimpArgs false
namespace Go.Proofs.YtmobnjlbbhhedaaGreatDoor
open Go.RowKit

set_option maxHeartbeats 1000000 in
set_option maxRecDepth 100000 in
theorem refLen_calls (v : Value) (X m : Nat) (w : World) (h : Num .u32 B16 w v X m) (hm : m ≤ 40000) :
    Calls Tryz.prog 24 #[v] w fun e w' => ∃ n : Nat, e = .returned (.int .i64 n) ∧ IsLen 2 X n ∧ w = w' := by
  have H := Lib.hid h
  clear h
  go_enter Tryz.func24, Tryz.ntmps24
  go_wp2_with fail
  refine (trim_calls v m X w H.out).mono ?_
  rintro e w' ⟨A, a, c, rfl, rfl, ha, HA, hla⟩
  have HA' := Lib.hid HA
  have hl := Lib.hid hla
  clear HA hla H
  cases a with
  | zero =>
    have hX : X = 0 := by have := hl.out.1; simpa using this
    have hX' := Lib.hid hX
    clear hX
    go_wp2_with fail
    go_ret
    exact ⟨0, rfl, by rw [hX'.out]; exact IsLen.zero 2, rfl⟩
  | succ a =>
    obtain ⟨ad, rfl, hcell⟩ := HA'.out.cell (show a < a + 1 by omega)
    have hd := dig16_lt X a
    obtain ⟨d, hdd⟩ : ∃ d, d = dig B16 X a := ⟨_, rfl⟩
    rw [← hdd] at hcell hd
    have hdd' := Lib.hid hdd
    clear hdd
    go_wp2_with fail
    go_loop [3, 4] (fun v3 v4 => ∃ j y : Nat, v3 = .int .i64 (16 * (a : Int) + (j : Int)) ∧ v4 = .int .u32 y ∧ y < 65536 ∧ j ≤ 16 ∧ Hid (y = d / 2 ^ j) ∧ Hid (j = 0 ∨ 0 < d / 2 ^ (j - 1))) (fun _ v => (intOf v).toNat)
    case atStart => exact ⟨0, d, by go_num, rfl, hd, by omega, by show d = _; simp, .inl rfl⟩
    case round =>
      obtain ⟨j, y, rfl, rfl, hy, hj, hyd, hj0⟩ := hrel
      by_cases h0 : 0 < y
      · obtain ⟨y2, hy2⟩ : ∃ y2, y2 = y / 2 := ⟨_, rfl⟩
        have hq : (y : Int) / 2 = (y2 : Int) := by omega
        have hyd2 : Hid (y2 = d / 2 ^ (j + 1)) := by
          show y2 = _
          rw [hy2, hyd.out, Nat.div_div_eq_div_mul, Nat.pow_succ]
        have hj2 : Hid (j + 1 = 0 ∨ 0 < d / 2 ^ (j + 1 - 1)) := .inr (by rw [Nat.add_sub_cancel, ← hyd.out]; exact h0)
        have hj3 : j + 1 ≤ 16 := by
          have h1 : 0 < d / 2 ^ j := by rw [← hyd.out]; exact h0
          have h2 : 2 ^ j ≤ d := by
            apply Classical.byContradiction
            intro hlt
            rw [Nat.div_eq_of_lt (by omega)] at h1
            omega
          have h3 := (Nat.pow_lt_pow_iff_right (a := 2) (by omega)).1 (Nat.lt_of_le_of_lt h2 (show d < 2 ^ 16 from hd))
          omega
        have hlt : y2 < y := by omega
        have hw : 16 * (a : Int) + (j : Int) + 1 = 16 * (a : Int) + ((j + 1 : Nat) : Int) := by omega
        clear hy2 hyd hj0
        go_wp2_with fail
        go_round
        case rel => exact ⟨j + 1, y2, by go_num, rfl, by omega, hj3, hyd2, hj2⟩
        case measure => simp [intOf]; omega
      · obtain rfl : y = 0 := by omega
        have hk := Lib.hid (isLen_digits2 hl.out (k := j) (by rw [← hdd'.out]; exact isLen2_of hyd.out.symm hj0.out))
        clear hyd hj0
        go_wp2_with fail
        go_ret
        exact ⟨16 * a + j, by go_num, hk.out, rfl⟩

end Go.Proofs.YtmobnjlbbhhedaaGreatDoor
