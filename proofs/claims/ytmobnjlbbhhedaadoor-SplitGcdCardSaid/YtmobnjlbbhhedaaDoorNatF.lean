/- The walks of bits.Len64 and nat.Len. -/
import Derived.Test.YtmobnjlbbhhedaaDoorNatE
import Derived.Test.YtmobnjlbbhhedaaDoorLenA
set_option linter.unusedVariables false
set_option linter.unusedSimpArgs false
namespace Go.Proofs.YtmobnjlbbhhedaaDoor
open Go.RowKit

/-- A number's length in bits, by its limbs. -/
theorem isLen_limbs {X n k : Nat} (h : IsLen B64 X (n + 1)) (hk : IsLen 2 (dig B64 X n) k) : IsLen 2 X (64 * n + k) := by
  have hp := Nat.pow_pos (n := n) B64_pos
  have hdiv : X / B64 ^ n = dig B64 X n := by
    have h1 : X / B64 ^ n < B64 := by
      rw [Nat.div_lt_iff_lt_mul hp, Nat.mul_comm, ← Nat.pow_succ]; exact h.1
    unfold dig
    rw [Nat.mod_eq_of_lt h1]
  have e : ∀ j, 2 ^ (64 * n + j) = 2 ^ j * B64 ^ n := fun j => two_pow_split n j
  have htop := h.top_ne B64_pos
  refine ⟨?_, fun m hm => ?_⟩
  · rw [e, ← Nat.div_lt_iff_lt_mul hp, hdiv]
    exact hk.1
  · apply Classical.byContradiction
    intro hlt
    by_cases hm64 : 64 * n ≤ m
    · obtain ⟨j, rfl⟩ : ∃ j, m = 64 * n + j := ⟨m - 64 * n, by omega⟩
      rw [e, ← Nat.div_lt_iff_lt_mul hp, hdiv] at hm
      have := hk.2 j hm
      omega
    · have h2 : X < 2 ^ (64 * n + 0) := Nat.lt_of_lt_of_le hm (Nat.pow_le_pow_right (by omega) (by omega))
      rw [e, Nat.pow_zero, Nat.one_mul] at h2
      exact htop (dig_ge B64_pos h2 (Nat.le_refl _))

theorem len2_le {X n l : Nat} (h : IsLen 2 X l) (hx : X < B64 ^ n) : l ≤ 64 * n := by
  refine h.2 _ ?_
  rwa [B64_two, ← Nat.pow_mul] at hx
theorem two_pow_lt {l n : Nat} (h : l < 64 * n) : 2 ^ l < B64 ^ n := by
  rw [B64_two, ← Nat.pow_mul]
  exact Nat.pow_lt_pow_right (by omega) h

set_option maxHeartbeats 1000000 in
set_option maxRecDepth 100000 in
theorem natLen_calls (v : Value) (X m : Nat) (w : World) (h : Num .u64 B64 w v X m) (hm : m ≤ 20000) :
    Calls Tryd.prog 14 #[v] w fun e w' => ∃ n : Nat, e = .returned (.int .i64 n) ∧ IsLen 2 X n ∧ w = w' := by
  have H := Lib.hid h
  clear h
  go_enter Tryd.func14, Tryd.ntmps14
  go_wp2_with fail
  refine (natPlain_calls v m X w H.out).mono ?_
  rintro e w' ⟨A, a, rfl, rfl, ha, HA, hla⟩
  have HA' := Lib.hid HA
  have hl := Lib.hid hla
  clear HA hla H
  cases a with
  | zero =>
    have hX : X = 0 := by have := hl.out.1; simpa using this
    have hX' := Lib.hid hX
    clear hX
    go_wp2_with fail
    go_ret
    exact ⟨0, rfl, by rw [hX'.out]; exact IsLen.zero 2, rfl⟩
  | succ a =>
    obtain ⟨ad, rfl, hcell⟩ := HA'.out.cell (show a < a + 1 by omega)
    go_wp2_with fail
    refine (len64_calls (dig B64 X a) w (dig_lt B64_pos X a)).mono ?_
    rintro e w' ⟨k, rfl, hk, hk64, rfl⟩
    have hk' := Lib.hid (isLen_limbs hl.out hk)
    clear hk
    go_wp2_with fail
    go_ret
    exact ⟨64 * a + k, by go_num, hk'.out, rfl⟩
end Go.Proofs.YtmobnjlbbhhedaaDoor
