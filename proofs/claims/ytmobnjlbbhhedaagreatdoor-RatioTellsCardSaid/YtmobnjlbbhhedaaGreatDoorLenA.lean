/- The walk of bits.Len64. -/
import Derived.Test.YtmobnjlbbhhedaaGreatDoorProg
import Derived.KernelRfl
import Derived.Test.YtmobnjlbbhhedaaGreatDoorNum
import Derived.Lib.Strings
import Derived.Lib.Slices
import Derived.Lib.Small
import Derived.Lib.Walk
import Derived.Lib.BitFns
set_option linter.unusedVariables false
set_option linter.unusedSimpArgs false
namespace Go.Proofs.YtmobnjlbbhhedaaGreatDoor

set_option maxHeartbeats 4000000 in
set_option maxRecDepth 100000 in
theorem len64_walk (x : Int) (w : World) (h0 : 0 ≤ x) (h1 : x ≤ 18446744073709551615) :
    Calls Tryz.prog 71 #[.int .u64 x] w fun e w' => e = .returned (.int .i64 (Lib.bitLen x.toNat)) ∧ w' = w := by
  go_enter Tryz.func71, Tryz.ntmps71
  go_wp2
  all_goals (go_ret; refine ⟨congrArg Ending.returned (congrArg (Value.int IntKind.i64) ?_), rfl⟩)
  all_goals first
    | (rw [Lib.len8_of (x / 4294967296 / 65536 / 256 % 256) (by omega) (by omega)]
       have e : (x / 4294967296 / 65536 / 256 % 256).toNat = x.toNat / 72057594037927936 := by omega
       have l := Lib.bitLen_le8' (x / 4294967296 / 65536 / 256 % 256) (by omega) (by omega)
       have s := Lib.bitLen_shift56 x.toNat (by omega) (by omega)
       rw [e] at l ⊢
       omega)
    | (rw [Lib.len8_of (x / 4294967296 / 65536 % 256) (by omega) (by omega)]
       have e : (x / 4294967296 / 65536 % 256).toNat = x.toNat / 281474976710656 := by omega
       have l := Lib.bitLen_le8' (x / 4294967296 / 65536 % 256) (by omega) (by omega)
       have s := Lib.bitLen_shift48 x.toNat (by omega) (by omega)
       rw [e] at l ⊢
       omega)
    | (rw [Lib.len8_of (x / 4294967296 / 256 % 256) (by omega) (by omega)]
       have e : (x / 4294967296 / 256 % 256).toNat = x.toNat / 1099511627776 := by omega
       have l := Lib.bitLen_le8' (x / 4294967296 / 256 % 256) (by omega) (by omega)
       have s := Lib.bitLen_shift40 x.toNat (by omega) (by omega)
       rw [e] at l ⊢
       omega)
    | (rw [Lib.len8_of (x / 4294967296 % 256) (by omega) (by omega)]
       have e : (x / 4294967296 % 256).toNat = x.toNat / 4294967296 := by omega
       have l := Lib.bitLen_le8' (x / 4294967296 % 256) (by omega) (by omega)
       have s := Lib.bitLen_shift32 x.toNat (by omega) (by omega)
       rw [e] at l ⊢
       omega)
    | (rw [Lib.len8_of (x / 65536 / 256 % 256) (by omega) (by omega)]
       have e : (x / 65536 / 256 % 256).toNat = x.toNat / 16777216 := by omega
       have l := Lib.bitLen_le8' (x / 65536 / 256 % 256) (by omega) (by omega)
       have s := Lib.bitLen_shift24 x.toNat (by omega) (by omega)
       rw [e] at l ⊢
       omega)
    | (rw [Lib.len8_of (x / 65536 % 256) (by omega) (by omega)]
       have e : (x / 65536 % 256).toNat = x.toNat / 65536 := by omega
       have l := Lib.bitLen_le8' (x / 65536 % 256) (by omega) (by omega)
       have s := Lib.bitLen_shift16 x.toNat (by omega) (by omega)
       rw [e] at l ⊢
       omega)
    | (rw [Lib.len8_of (x / 256 % 256) (by omega) (by omega)]
       have e : (x / 256 % 256).toNat = x.toNat / 256 := by omega
       have l := Lib.bitLen_le8' (x / 256 % 256) (by omega) (by omega)
       have s := Lib.bitLen_shift8 x.toNat (by omega) (by omega)
       rw [e] at l ⊢
       omega)
    | (rw [Lib.len8_of (x % 256) (by omega) (by omega)]
       have e : (x % 256).toNat = x.toNat := by omega
       have l := Lib.bitLen_le8' (x % 256) (by omega) (by omega)
       rw [e] at l ⊢
       omega)

theorem IsLen.half {x n : Nat} (h0 : x ≠ 0) (h : IsLen 2 (x / 2) n) : IsLen 2 x (n + 1) := by
  refine ⟨?_, fun m hm => ?_⟩
  · have := h.1
    rw [Nat.pow_succ]
    omega
  · cases m with
    | zero => simp at hm; omega
    | succ m =>
      have : n ≤ m := h.2 m (by rw [Nat.pow_succ] at hm; omega)
      omega
theorem isLen_bitLen : ∀ (k x : Nat), k ≤ 64 → x < 2 ^ k → IsLen 2 x (Lib.bitLen x)
  | 0, x, _, h => by
    have : x = 0 := by simpa using h
    subst this
    exact IsLen.zero 2
  | k + 1, x, hk, h => by
    by_cases h0 : x = 0
    · subst h0; exact IsLen.zero 2
    · rw [Lib.bitLen_half x h0 (Nat.lt_of_lt_of_le h (Nat.pow_le_pow_right (by omega) hk)), Nat.add_comm]
      exact IsLen.half h0 (isLen_bitLen k (x / 2) (by omega) (by rw [Nat.pow_succ] at h; omega))
theorem len64_calls (x : Nat) (w : World) (h : x < B64) :
    Calls Tryz.prog 71 #[.int .u64 x] w fun e w' => ∃ n : Nat, e = .returned (.int .i64 n) ∧ IsLen 2 x n ∧ n ≤ 64 ∧ w = w' := by
  rw [B64_eq] at h
  refine (len64_walk x w (by omega) (by omega)).mono ?_
  rintro e w' ⟨he, hw⟩
  have := isLen_bitLen 64 x (Nat.le_refl _) h
  exact ⟨Lib.bitLen x, by simpa using he, this, this.2 64 h, hw.symm⟩

end Go.Proofs.YtmobnjlbbhhedaaGreatDoor
