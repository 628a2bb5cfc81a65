/- The walks of outriggerref07's Good, Turn, Square. -/
import Derived.Test.YtmkpeihcchdjcaaRefJ
set_option linter.unusedVariables false
set_option linter.unusedSimpArgs false
namespace Go.Proofs.Ytmkpeihcchdjcaa
open Go.RowKit

set_option maxRecDepth 100000 in
theorem good_calls (x y : Nat) (hx : x < 18446744073709551616) (hy : y < 18446744073709551616) (w : World) :
    Calls Try.prog 12 #[.agg #[.int .u64 x, .int .u64 y]] w fun e w' => ∃ b, e = .returned (.bool b) ∧ (b = true ↔ isFin x ∧ isFin y) ∧ Below w.heap.size w w' := by
  have cx := Lib.hid (finite_calls x hx)
  have cy := Lib.hid (finite_calls y hy)
  obtain ⟨bx, hbx⟩ : ∃ bx, bx = decide (x / 4503599627370496 % 2048 ≠ 2047) := ⟨_, rfl⟩
  obtain ⟨b_y, hby⟩ : ∃ b_y, b_y = decide (y / 4503599627370496 % 2048 ≠ 2047) := ⟨_, rfl⟩
  rw [← hbx] at cx
  rw [← hby] at cy
  have h1 : Hid (bx = true ↔ isFin x) := by
    show _ ↔ _
    rw [fin_iff, hbx, decide_eq_true_iff]
  have h2 : Hid (b_y = true ↔ isFin y) := by
    show _ ↔ _
    rw [fin_iff, hby, decide_eq_true_iff]
  clear hbx hby
  go_enter Try.func12, Try.ntmps12
  go_wp2_with fail
  refine (cx.out _).mono ?_
  rintro e w' ⟨rfl, n1, rfl⟩
  cases bx with
  | false =>
    go_wp2_with fail
    go_ret
    refine ⟨false, rfl, ?_, below_drewN ((Below.refl _ _).alloc (Nat.le_refl _) _) _⟩
    have := h1.out
    simp at this ⊢
    intro h
    exact absurd h this
  | true =>
    go_wp2_with fail
    refine (cy.out _).mono ?_
    rintro e w' ⟨rfl, n2, rfl⟩
    go_wp2_with fail
    go_ret
    refine ⟨b_y, rfl, ?_, below_drewN ((Below.refl _ _).alloc (Nat.le_refl _) _) _⟩
    have e1 := h1.out
    have e2 := h2.out
    simp at e1
    rw [e2]
    simp [e1]
end Go.Proofs.Ytmkpeihcchdjcaa
