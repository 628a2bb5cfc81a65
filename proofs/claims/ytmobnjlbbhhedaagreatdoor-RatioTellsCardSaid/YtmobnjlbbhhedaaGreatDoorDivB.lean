/- The walks of split.by, split.guess. -/
import Derived.Test.YtmobnjlbbhhedaaGreatDoorDivA
import Derived.Test.YtmobnjlbbhhedaaGreatDoorNatB
import Derived.Test.YtmobnjlbbhhedaaGreatDoorNumC
set_option linter.unusedVariables false
set_option linter.unusedSimpArgs false
namespace Go.Proofs.YtmobnjlbbhhedaaGreatDoor
open Go.RowKit

theorem div_top (B X k : Nat) : X / B ^ k = X / B ^ (k + 1) * B + dig B X k := div_step B X k
/-- A digit of a quotient, and what is left of the number so far. -/
theorem quo_digit {B X d k : Nat} (hB : 0 < B) (hd : 0 < d) :
    (X / B ^ (k + 1) % d * B + dig B X k) / d = dig B (X / d) k ∧ (X / B ^ (k + 1) % d * B + dig B X k) % d = X / B ^ k % d := by
  have h1 := div_top B X k
  have h2 : X / d / B ^ k = X / B ^ k / d := by rw [Nat.div_div_eq_div_mul, Nat.div_div_eq_div_mul, Nat.mul_comm]
  have hx := dig_lt hB X k
  unfold dig at h1 hx ⊢
  rw [h2]
  generalize X / B ^ (k + 1) = Z at *
  generalize X / B ^ k = W at *
  have hd2 := Nat.div_add_mod Z d
  have e : W = (Z % d * B + W % B) + d * (Z / d * B) := by
    have h3 : Z * B = Z % d * B + d * (Z / d * B) := by
      rw [← Nat.mul_assoc, ← Nat.add_mul]
      congr 1; omega
    omega
  have hlt : (Z % d * B + W % B) / d < B := by
    rw [Nat.div_lt_iff_lt_mul hd]
    have h4 := Nat.mul_le_mul_right B (show Z % d + 1 ≤ d from Nat.mod_lt _ hd)
    rw [Nat.add_mul, Nat.one_mul, Nat.mul_comm d B] at h4
    omega
  constructor
  · conv => rhs; rw [e, Nat.add_mul_div_left _ _ hd, Nat.add_mul_mod_self_right, Nat.mod_eq_of_lt hlt]
  · conv => rhs; rw [e, Nat.add_mul_mod_self_left]
set_option maxHeartbeats 1000000 in
set_option maxRecDepth 100000 in
theorem by_calls (v : Value) (X n d : Nat) (w : World) (h : Num .u64 B64 w v X n) (hn : n ≤ 20000) (hd0 : 0 < d) (hd : d < 18446744073709551616) :
    Calls Tryz.prog 59 #[v, .int .u64 d] w fun e w' => ∃ A r, e = .returned (.tuple #[.slice A r r, .int .u64 (X % d : Nat)]) ∧ Num .u64 B64 w' (.slice A r r) (X / d) r ∧ IsLen B64 (X / d) r ∧ Below w.heap.size w w' := by
  obtain ⟨A, c, rfl, hnc, hc⟩ := h.form
  have H := Lib.hid h
  clear h
  have D := Lib.hid (fun l x (hl : l < d) (hx : x < B64) w => div64_calls l x d w (by rw [← B64_eq]; exact hx) hd hl)
  have hlt : Hid (X / d < B64 ^ n) := Nat.lt_of_le_of_lt (Nat.div_le_self _ _) H.out.lt
  have hd0' := Lib.hid hd0
  clear hd hd0
  have hmk := run_make_row' (P := Tryz.prog) 22 79 (.int .u64 0) 8 Tryz.underlying22 info64 rfl .i64 .i64 n (by omega) (by omega)
  go_enter Tryz.func59, Tryz.ntmps59
  go_wp2_with fail
  clear hmk
  go_loopw [7, 8] (fun v7 v8 wr => ∃ k l : Nat, v8 = .int .i64 ((k : Int) - 1) ∧ k ≤ n ∧ v7 = .int .u64 l ∧ Hid (l = X / B64 ^ k % d) ∧ Hid (Row .u64 B64 79 wr w.heap.size n (mix B64 0 (X / d) k)) ∧ Hid (Below w.heap.size w wr)) (fun _ v _ => (intOf v + 1).toNat)
  case atStart =>
    refine ⟨n, 0, by go_num, Nat.le_refl _, rfl, ?_, ?_, (Below.refl _ _).alloc (Nat.le_refl _) _⟩
    · show 0 = _
      rw [Nat.div_eq_of_lt H.out.lt, Nat.zero_mod]
    · rw [mix_all B64_pos (Nat.pow_pos B64_pos) hlt.out]
      exact Row.made B64_pos _ _ _
  case round =>
    obtain ⟨k, l, rfl, hk, rfl, hl, hrow, hbel⟩ := hrel
    cases k with
    | succ j =>
      obtain ⟨ad, rfl, hca⟩ := (H.out.below hbel.out).cell (show j < n by omega)
      have hfz := hrow.out.frozen j
      have hcell := hrow.out.cell (show j < n by omega)
      obtain ⟨q1, q2⟩ := quo_digit (X := X) (k := j) B64_pos hd0'.out
      rw [← hl.out] at q1 q2
      have dd := D.out l (dig B64 X j) (by rw [hl.out]; exact Nat.mod_lt _ hd0'.out) (dig_lt B64_pos X j)
      rw [← B64_eq, q1, q2] at dd
      have dd' := Lib.hid dd
      obtain ⟨l2, hl2⟩ : ∃ l2, l2 = X / B64 ^ j % d := ⟨_, rfl⟩
      rw [← hl2] at dd'
      have hl2' := Lib.hid hl2
      clear dd q1 q2 hl hl2
      go_wp2_with fail
      refine (dd'.out _).mono ?_
      rintro e w' ⟨rfl, nd, rfl⟩
      have hrow2 : Hid (Row .u64 B64 79 ((wr.drewN nd).setCell ⟨w.heap.size, j, none⟩ (.int .u64 (dig B64 (X / d) j : Nat))) w.heap.size n (mix B64 0 (X / d) j)) :=
        (hrow.out.drewN nd).set j _ (mix B64 0 (X / d) j) (mix_lt B64_pos (by omega) hlt.out) (fun t => mix_down B64_pos _ _ j t)
      have hbel2 : Hid (Below w.heap.size w ((wr.drewN nd).setCell ⟨w.heap.size, j, none⟩ (.int .u64 (dig B64 (X / d) j : Nat)))) := (below_drewN hbel.out nd).setCell (Nat.le_refl _) _
      clear hrow hbel dd'
      go_wp2_with fail
      go_roundw
      case rel => exact ⟨j, l2, by go_num, by omega, rfl, hl2', hrow2, hbel2⟩
      case measure => simp [intOf]; try omega
    | zero =>
      have hnum := hrow.out.num (by omega)
      rw [mix_zero] at hnum
      have hnum' := Lib.hid hnum
      have hlf : Hid (l = X % d) := by
        have := hl.out
        rw [Nat.pow_zero, Nat.div_one] at this
        exact this
      clear hnum hrow hl
      go_wp2_with fail
      refine (natPlain_calls _ n (X / d) wr hnum'.out).mono ?_
      rintro e w' ⟨C, r, rfl, rfl, hr, HC, hlc⟩
      have HC' := Lib.hid HC
      have hlc' := Lib.hid hlc
      clear HC hlc
      go_wp2_with fail
      go_ret2
      exact ⟨C, r, by rw [← hlf.out]; rfl, HC'.out, hlc'.out, hbel.out⟩
set_option maxRecDepth 100000 in
/-- split.guess: as often as it goes in, or the greatest digit. -/
theorem guessz_calls (hi nx d : Nat) (w : World) (hnx : nx < 18446744073709551616) (hd : d < 18446744073709551616) :
    Calls Tryz.prog 84 #[.int .u64 hi, .int .u64 nx, .int .u64 d] w fun e w' => e = .returned (.int .u64 (if d ≤ hi then 18446744073709551615 else (hi * 18446744073709551616 + nx) / d : Nat)) ∧ ∃ nd, w' = w.drewN nd := by
  by_cases h : d ≤ hi
  · rw [if_pos h]
    clear hnx hd
    go_enter Tryz.func84, Tryz.ntmps84
    go_wp2_with fail
    go_ret
    exact ⟨rfl, 0, rfl⟩
  · rw [if_neg h]
    have D := Lib.hid (div64_calls hi nx d w hnx hd (by omega))
    obtain ⟨q, hq⟩ : ∃ q, q = (hi * 18446744073709551616 + nx) / d := ⟨_, rfl⟩
    obtain ⟨r, hr⟩ : ∃ r, r = (hi * 18446744073709551616 + nx) % d := ⟨_, rfl⟩
    rw [← hq, ← hr] at D
    rw [← hq]
    clear hnx hd hq hr
    go_enter Tryz.func84, Tryz.ntmps84
    go_wp2_with fail
    refine D.out.mono ?_
    rintro e w' ⟨rfl, nd, rfl⟩
    go_wp2_with fail
    go_ret
    exact ⟨rfl, nd, rfl⟩
end Go.Proofs.YtmobnjlbbhhedaaGreatDoor
