/- The walk of bits.TrailingZeros64, over its table. -/
import Derived.Test.YtmobnjlbbhhedaaGreatDoorNatA
import Derived.Lib.TrailingZeros
import Derived.Laws.Bits64b
set_option linter.unusedVariables false
set_option linter.unusedSimpArgs false
namespace Go.Proofs.YtmobnjlbbhhedaaGreatDoor
open Go.RowKit

/-- The table in its variable. -/
def TabAt (w : World) : Prop := ∀ j, j < 64 → w.cell? ⟨1, j, none⟩ = some (.int .u8 (Lib.deBruijn64tab.getD j 0 : Nat))
theorem TabAt.below {w w' : World} (h : TabAt w) (hb : Below w.heap.size w w') : TabAt w' := fun j hj => cell_below hb (h j hj)
theorem tabAt_of {w : World} (h : ∀ j, j < 64 → w.cell? ⟨1, j, none⟩ = some (.int .u8 (([0, 1, 56, 2, 57, 49, 28, 3, 61, 58, 42, 50, 38, 29, 17, 4, 62, 47, 59, 36, 45, 43, 51, 22, 53, 39, 33, 30, 24, 18, 12, 5, 63, 55, 48, 27, 60, 41, 37, 16, 46, 35, 44, 21, 52, 32, 23, 11, 54, 26, 40, 15, 34, 20, 31, 10, 25, 14, 19, 9, 13, 8, 7, 6] : List Int).getD j 0))) : TabAt w := fun j hj => by
  rw [h j hj]
  have : ∀ j, j < 64 → (([0, 1, 56, 2, 57, 49, 28, 3, 61, 58, 42, 50, 38, 29, 17, 4, 62, 47, 59, 36, 45, 43, 51, 22, 53, 39, 33, 30, 24, 18, 12, 5, 63, 55, 48, 27, 60, 41, 37, 16, 46, 35, 44, 21, 52, 32, 23, 11, 54, 26, 40, 15, 34, 20, 31, 10, 25, 14, 19, 9, 13, 8, 7, 6] : List Int).getD j 0) = ((Lib.deBruijn64tab.getD j 0 : Nat) : Int) := by decide
  rw [this j hj]

theorem tz_key (x a : Nat) (hx : x < 18446744073709551616) (hx0 : x ≠ 0) (hlow : x &&& (18446744073709551616 - x) = a) :
    IntKind.u64.wrap (bits BinOp.and IntKind.u64 (x : Int) (IntKind.u64.wrap (-(x : Int))) * 285870213051353865) / 288230376151711744 = ((a * 285870213051353865 % 18446744073709551616 / 288230376151711744 : Nat) : Int) := by
  have e1 : IntKind.u64.wrap (-(x : Int)) = ((18446744073709551616 - x : Nat) : Int) := by rw [IntKind.wrap_u64]; omega
  rw [e1, bits_and_u64_nat x _ hx (by omega), hlow, IntKind.wrap_u64]
  omega
set_option maxRecDepth 100000 in
theorem tz_core (x k idx : Nat) (w : World) (hx0 : ((x : Int) == 0) = false)
    (key : IntKind.u64.wrap (bits BinOp.and IntKind.u64 (x : Int) (IntKind.u64.wrap (-(x : Int))) * 285870213051353865) / 288230376151711744 = (idx : Int))
    (hi : idx < 64) (hk : k < 64) (hcell : w.cell? ⟨1, idx, none⟩ = some (.int .u8 k)) :
    Calls Tryz.prog 80 #[.int .u64 x] w fun e w' => e = .returned (.int .i64 k) ∧ w = w' := by
  go_enter Tryz.func80, Tryz.ntmps80
  go_wp2_with (simp only [key])
  go_ret
  exact ⟨rfl, rfl⟩
theorem tz_calls (x : Nat) (hx : x < 18446744073709551616) (h0 : x ≠ 0) (w : World) (hT : TabAt w) :
    Calls Tryz.prog 80 #[.int .u64 x] w fun e w' => ∃ n m : Nat, e = .returned (.int .i64 n) ∧ n < 64 ∧ x = m * 2 ^ n ∧ m % 2 = 1 ∧ w = w' := by
  obtain ⟨hlow, hk⟩ := Lib.lowest_bit 64 x h0 hx
  obtain ⟨hi, htab⟩ := Lib.deBruijn64_at _ hk
  have hcell := hT _ hi
  rw [htab] at hcell
  have hspec : ∃ m, x = 2 ^ Lib.ctz 64 x * (2 * m + 1) := by
    obtain ⟨m, hm, _⟩ := Lib.ctzFrom_spec 64 x (by omega) hx
    exact ⟨m, by unfold Lib.ctz; rw [if_neg h0]; exact hm⟩
  obtain ⟨m, hm⟩ := hspec
  refine (tz_core x _ _ w (by simp; omega) (tz_key x _ hx h0 hlow) hi hk hcell).mono ?_
  rintro e w' ⟨rfl, rfl⟩
  exact ⟨_, 2 * m + 1, rfl, hk, by rw [Nat.mul_comm]; exact hm, by omega, rfl⟩

theorem TabAt.drewN {w : World} (h : TabAt w) (n : Nat) : TabAt (w.drewN n) := h
end Go.Proofs.YtmobnjlbbhhedaaGreatDoor
