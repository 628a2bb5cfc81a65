/- The walks of split.twos and of split.Gcd's shift. -/
import Derived.Test.YtmobnjlbbhhedaaGreatDoorDivE
import Derived.Test.YtmobnjlbbhhedaaGreatDoorTz
set_option linter.unusedVariables false
set_option linter.unusedSimpArgs false
namespace Go.Proofs.YtmobnjlbbhhedaaGreatDoor
open Go.RowKit

theorem twos_digit {X k m s : Nat} (h0 : X % B64 ^ k = 0) (hs : s < 64) (hd : dig B64 X k = m * 2 ^ s) (hm : m % 2 = 1) : ∃ M, X = M * 2 ^ (64 * k + s) ∧ M % 2 = 1 := by
  have h1 := div_step B64 X k
  rw [hd] at h1
  have hB : B64 = 2 * 2 ^ (63 - s) * 2 ^ s := by
    have : B64 = 2 ^ 64 := rfl
    rw [this, ← Nat.pow_succ', ← Nat.pow_add]
    congr 1; omega
  have h2 := Nat.div_add_mod X (B64 ^ k)
  rw [h0, Nat.add_zero, h1] at h2
  have hBk : B64 ^ k = 2 ^ (64 * k) := by
    have : B64 = 2 ^ 64 := rfl
    rw [this, ← Nat.pow_mul]
  obtain ⟨Z, hZ⟩ : ∃ Z, Z = X / B64 ^ (k + 1) := ⟨_, rfl⟩
  rw [← hZ] at h2
  refine ⟨Z * (2 * 2 ^ (63 - s)) + m, ?_, ?_⟩
  · have h3 : X = 2 ^ (64 * k) * (Z * (2 * 2 ^ (63 - s) * 2 ^ s) + m * 2 ^ s) := by
      rw [← hB, ← hBk]; exact h2.symm
    rw [h3, Nat.pow_add, ← Nat.mul_assoc _ _ (2 ^ s), ← Nat.add_mul, Nat.mul_left_comm]
  · have : Z * (2 * 2 ^ (63 - s)) = 2 * (Z * 2 ^ (63 - s)) := by rw [Nat.mul_left_comm]
    omega

set_option maxRecDepth 100000 in
theorem twos_calls (v : Value) (X n : Nat) (w : World) (h : Num .u64 B64 w v X n) (hn : n ≤ 20000) (hX : 0 < X) (hT : TabAt w) :
    Calls Tryz.prog 53 #[v] w fun e w' => ∃ t M : Nat, e = .returned (.int .i64 t) ∧ X = M * 2 ^ t ∧ M % 2 = 1 ∧ w = w' := by
  obtain ⟨A, c, rfl, hnc, hc⟩ := h.form
  have H := Lib.hid h
  clear h
  go_enter Tryz.func53, Tryz.ntmps53
  go_wp2_with fail
  go_loopw [7] (fun v7 wr => ∃ k : Nat, v7 = .int .i64 k ∧ k ≤ n ∧ Hid (X % B64 ^ k = 0) ∧ wr = w) (fun v _ => n - (intOf v).toNat)
  case atStart => exact ⟨0, rfl, Nat.zero_le _, (by show X % B64 ^ 0 = 0; rw [Nat.pow_zero, Nat.mod_one]), rfl⟩
  case round =>
    obtain ⟨k, rfl, hk, hz, rfl⟩ := hrel
    by_cases hkn : k < n
    · obtain ⟨ad, rfl, hcell⟩ := H.out.cell hkn
      by_cases h0 : dig B64 X k = 0
      · rw [h0] at hcell
        have hz' : Hid (X % B64 ^ (k + 1) = 0) := by
          show _ = 0
          rw [mod_pow_succ', hz.out, h0, Nat.zero_mul]
        go_wp2_with fail
        go_roundw
        case rel => exact ⟨k + 1, by go_num, by omega, hz', trivial⟩
        case measure => simp [intOf]; try omega
      · obtain ⟨d, hd⟩ : ∃ d, d = dig B64 X k := ⟨_, rfl⟩
        rw [← hd] at hcell h0
        have hd64 : Hid (d < 18446744073709551616) := by
          show d < _
          rw [hd]; exact dig64_lt X k
        have hd' := Lib.hid hd
        have hne : ((d : Int) == 0) = false := by simp; omega
        clear hd
        go_wp2_with fail
        refine (tz_calls d hd64.out h0 _ hT).mono ?_
        rintro e w' ⟨s, m, rfl, hs, hm, hodd, rfl⟩
        have hm' := Lib.hid hm
        clear hm
        go_wp2_with fail
        go_ret
        obtain ⟨M, h1, h2⟩ := twos_digit hz.out hs (by rw [← hd'.out]; exact hm'.out) hodd
        exact ⟨64 * k + s, M, by simp, h1, h2, rfl⟩
    · exfalso
      obtain rfl : k = n := by omega
      have := hz.out
      rw [Nat.mod_eq_of_lt H.out.lt] at this
      omega

theorem twos_le {X n M t : Nat} (hX : X < B64 ^ n) (h : X = M * 2 ^ t) (hM : M % 2 = 1) : t < 64 * n := by
  have hBk : B64 ^ n = 2 ^ (64 * n) := by
    have : B64 = 2 ^ 64 := rfl
    rw [this, ← Nat.pow_mul]
  rw [hBk, h] at hX
  apply Classical.byContradiction
  intro hlt
  have h1 : 2 ^ (64 * n) ≤ 2 ^ t := Nat.pow_le_pow_right (by decide) (by omega)
  have h2 : 1 * 2 ^ t ≤ M * 2 ^ t := Nat.mul_le_mul_right _ (by omega)
  omega
set_option maxRecDepth 100000 in
theorem odd_calls (v : Value) (X n : Nat) (w : World) (h : Num .u64 B64 w v X n) (hn : n ≤ 20000) (hX : 0 < X) (hT : TabAt w) :
    Calls Tryz.prog 54 #[v] w fun e w' => ∃ A r c M t, e = .returned (.slice A r c) ∧ X = M * 2 ^ t ∧ M % 2 = 1 ∧ Num .u64 B64 w' (.slice A r c) M r ∧ IsLen B64 M r ∧ Below w.heap.size w w' := by
  have H := Lib.hid h
  clear h
  go_enter Tryz.func54, Tryz.ntmps54
  go_wp2_with fail
  refine (twos_calls v X n w H.out hn hX hT).mono ?_
  rintro e w' ⟨t, M, rfl, hm, hodd, rfl⟩
  have ht := twos_le H.out.lt hm hodd
  have hm' := Lib.hid hm
  have ho' := Lib.hid hodd
  clear hm hodd
  go_wp2_with fail
  refine (natShr_calls v X t n (t : Int) w H.out hn (by omega) (by omega)).mono ?_
  rintro e w1 ⟨A, r, c, rfl, hA, hl, hb⟩
  rw [show X / 2 ^ t = M by rw [hm'.out, Nat.mul_div_cancel _ (Nat.two_pow_pos t)]] at hA hl
  have hA' := Lib.hid hA
  have hl' := Lib.hid hl
  clear hA hl
  go_wp2_with fail
  go_ret
  exact ⟨A, r, c, M, t, rfl, hm'.out, ho'.out, hA'.out, hl'.out, hb⟩
end Go.Proofs.YtmobnjlbbhhedaaGreatDoor
