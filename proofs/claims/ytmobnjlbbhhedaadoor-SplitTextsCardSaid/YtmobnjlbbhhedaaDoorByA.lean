/- split.by once more: where its quotient lies. -/
import Derived.Test.YtmobnjlbbhhedaaDoorDivB
set_option linter.unusedVariables false
set_option linter.unusedSimpArgs false
namespace Go.Proofs.YtmobnjlbbhhedaaDoor
open Go.RowKit

set_option maxHeartbeats 1000000 in
set_option maxRecDepth 100000 in
theorem byA_calls (v : Value) (X n d : Nat) (w : World) (h : Num .u64 B64 w v X n) (hn : n ≤ 20000) (hd0 : 0 < d) (hd : d < 18446744073709551616) :
    Calls Tryd.prog 38 #[v, .int .u64 d] w fun e w' => ∃ r, e = .returned (.tuple #[.slice (some ⟨w.heap.size, 0, none⟩) r r, .int .u64 (X % d : Nat)]) ∧ Num .u64 B64 w' (.slice (some ⟨w.heap.size, 0, none⟩) r r) (X / d) r ∧ IsLen B64 (X / d) r ∧ Below w.heap.size w w' := by
  obtain ⟨A, c, rfl, hnc, hc⟩ := h.form
  have H := Lib.hid h
  clear h
  have D := Lib.hid (fun l x (hl : l < d) (hx : x < B64) w => div64_calls l x d w (by rw [← B64_eq]; exact hx) hd hl)
  have hlt : Hid (X / d < B64 ^ n) := Nat.lt_of_le_of_lt (Nat.div_le_self _ _) H.out.lt
  have hd0' := Lib.hid hd0
  clear hd hd0
  have hmk := run_make_row' (P := Tryd.prog) 22 36 (.int .u64 0) 8 Tryd.underlying22 info64 rfl .i64 .i64 n (by omega) (by omega)
  go_enter Tryd.func38, Tryd.ntmps38
  go_wp2_with fail
  clear hmk
  go_loopw [7, 8] (fun v7 v8 wr => ∃ k l : Nat, v8 = .int .i64 ((k : Int) - 1) ∧ k ≤ n ∧ v7 = .int .u64 l ∧ Hid (l = X / B64 ^ k % d) ∧ Hid (Row .u64 B64 36 wr w.heap.size n (mix B64 0 (X / d) k)) ∧ Hid (Below w.heap.size w wr)) (fun _ v _ => (intOf v + 1).toNat)
  case atStart =>
    refine ⟨n, 0, by go_num, Nat.le_refl _, rfl, ?_, ?_, (Below.refl _ _).alloc (Nat.le_refl _) _⟩
    · show 0 = _
      rw [Nat.div_eq_of_lt H.out.lt, Nat.zero_mod]
    · rw [mix_all B64_pos (Nat.pow_pos B64_pos) hlt.out]
      exact Row.made B64_pos _ _ _
  case round =>
    obtain ⟨k, l, rfl, hk, rfl, hl, hrow, hbel⟩ := hrel
    cases k with
    | succ j =>
      obtain ⟨ad, rfl, hca⟩ := (H.out.below hbel.out).cell (show j < n by omega)
      have hfz := hrow.out.frozen j
      have hcell := hrow.out.cell (show j < n by omega)
      obtain ⟨q1, q2⟩ := quo_digit (X := X) (k := j) B64_pos hd0'.out
      rw [← hl.out] at q1 q2
      have dd := D.out l (dig B64 X j) (by rw [hl.out]; exact Nat.mod_lt _ hd0'.out) (dig_lt B64_pos X j)
      rw [← B64_eq, q1, q2] at dd
      have dd' := Lib.hid dd
      obtain ⟨l2, hl2⟩ : ∃ l2, l2 = X / B64 ^ j % d := ⟨_, rfl⟩
      rw [← hl2] at dd'
      have hl2' := Lib.hid hl2
      clear dd q1 q2 hl hl2
      go_wp2_with fail
      refine (dd'.out _).mono ?_
      rintro e w' ⟨rfl, nd, rfl⟩
      have hrow2 : Hid (Row .u64 B64 36 ((wr.drewN nd).setCell ⟨w.heap.size, j, none⟩ (.int .u64 (dig B64 (X / d) j : Nat))) w.heap.size n (mix B64 0 (X / d) j)) :=
        (hrow.out.drewN nd).set j _ (mix B64 0 (X / d) j) (mix_lt B64_pos (by omega) hlt.out) (fun t => mix_down B64_pos _ _ j t)
      have hbel2 : Hid (Below w.heap.size w ((wr.drewN nd).setCell ⟨w.heap.size, j, none⟩ (.int .u64 (dig B64 (X / d) j : Nat)))) := (below_drewN hbel.out nd).setCell (Nat.le_refl _) _
      clear hrow hbel dd'
      go_wp2_with fail
      go_roundw
      case rel => exact ⟨j, l2, by go_num, by omega, rfl, hl2', hrow2, hbel2⟩
      case measure => simp [intOf]; try omega
    | zero =>
      have hnum := hrow.out.num (by omega)
      rw [mix_zero] at hnum
      have hnum' := Lib.hid hnum
      have hlf : Hid (l = X % d) := by
        have := hl.out
        rw [Nat.pow_zero, Nat.div_one] at this
        exact this
      clear hnum hrow hl
      go_wp2_with fail
      refine (natPlain_walk _ n n (X / d) wr hnum'.out).mono ?_
      rintro e w' ⟨r, rfl, rfl, hr, hlc⟩
      have HC' := Lib.hid (hnum'.out.take hr hlc.1 r (Nat.le_refl _) hr)
      have hlc' := Lib.hid hlc
      clear hlc
      go_wp2_with fail
      go_ret2
      exact ⟨r, by rw [← hlf.out]; rfl, HC'.out, hlc'.out, hbel.out⟩
theorem Num.zeroAt (k : IntKind) (B : Nat) (w : World) (C : Option Addr) : Num k B w (.slice C 0 0) 0 0 := ⟨C, 0, rfl, by simp, Nat.le_refl _, by omega, fun h => by omega⟩
/-- A number stays where another block grows. -/
theorem Num.grown {k : IntKind} {B X n g c : Nat} {w w' : World} {row : Option Nat} (h : Num k B w (.slice (some ⟨g, 0, none⟩) n c) X n) (hg : w.grownBy w' row) (hne : row ≠ some g) : Num k B w' (.slice (some ⟨g, 0, none⟩) n c) X n := by
  obtain ⟨A', c', e, hx, h1, h2, hr⟩ := h
  cases e
  refine ⟨_, _, rfl, hx, h1, h2, fun h0 => ?_⟩
  obtain ⟨ad, ea, hc⟩ := hr h0
  cases ea
  refine ⟨_, rfl, fun j hj => ?_⟩
  have hcj := hc j hj
  have hlt := World.block_lt_of_cell? w _ hcj
  rw [add_none] at hlt hcj ⊢
  rw [← hcj]
  exact World.cell?_of_block (w := w) (hg.block g hlt (fun e => hne e.symm))
end Go.Proofs.YtmobnjlbbhhedaaDoor
