/- The walk of the reference's Mul. -/
import Derived.Test.YtmobnjlbbhhedaaGreatDoorRefC
set_option linter.unusedVariables false
set_option linter.unusedSimpArgs false
namespace Go.Proofs.YtmobnjlbbhhedaaGreatDoor
open Go.RowKit

/-- One step of the reference's product. -/
theorem ref_step {x y d c : Nat} (hx : x < 65536) (hy : y < 65536) (hd : d < 65536) (hc : c < 65536) :
    ∃ p s1 s2 l2 c', p = x * y ∧ p ≤ 4294836225 ∧ s1 = d + p ∧ s2 = s1 + c ∧ l2 = s2 % 65536 ∧ c' = s2 / 65536 ∧ l2 < 65536 ∧ c' < 65536 ∧ l2 + c' * 65536 = x * y + d + c := by
  have h : x * y ≤ 65535 * 65535 := Nat.mul_le_mul (by omega) (by omega)
  refine ⟨x * y, d + x * y, d + x * y + c, (d + x * y + c) % 65536, (d + x * y + c) / 65536, rfl, h, rfl, rfl, rfl, rfl, ?_, ?_, ?_⟩ <;> omega

set_option maxHeartbeats 2000000 in
set_option maxRecDepth 100000 in
theorem refMulA_calls (v u : Value) (X Y n m : Nat) (w : World) (h : Num .u32 B16 w v X n) (k : Num .u32 B16 w u Y m) (hn : n ≤ 20000) (hm : m ≤ 20000) :
    Calls Tryz.prog 36 #[v, u] w fun e w' => ∃ A r c, e = .returned (.slice A r c) ∧ Num .u32 B16 w' (.slice A r c) (X * Y) r ∧ IsLen B16 (X * Y) r ∧ Below w.heap.size w w' ∧ ∃ ad, A = some ad := by
  obtain ⟨A, ca, rfl, hnc, hca⟩ := h.form
  obtain ⟨B, cb, rfl, hmc, hcb⟩ := k.form
  have H := Lib.hid h
  have K := Lib.hid k
  clear h k
  have hmk := run_make_row' (P := Tryz.prog) 34 80 (.int .u32 0) 4 Tryz.underlying34 info16 rfl .i64 .i64 (n + m + 1) (by omega) (by omega)
  have ec : ((n + m + 1 : Nat) : Int) = (n : Int) + (m : Int) + 1 := by omega
  rw [ec] at hmk
  clear ec
  go_enter Tryz.func36, Tryz.ntmps36
  go_wp2_with fail
  clear hmk
  go_loopw [6] (fun v6 wr => ∃ i R : Nat, v6 = .int .i64 i ∧ i ≤ n ∧ Hid (R = X % B16 ^ i * Y) ∧ Hid (Row .u32 B16 80 wr w.heap.size (n + m + 1) R) ∧ Hid (Below w.heap.size w wr)) (fun v _ => n - (intOf v).toNat)
  case atStart =>
    refine ⟨0, 0, rfl, Nat.zero_le _, ?_, Row.made B16_pos _ _ _, ((Below.refl _ _).alloc (Nat.le_refl _) _)⟩
    show 0 = X % B16 ^ 0 * Y
    rw [Nat.pow_zero, Nat.mod_one, Nat.zero_mul]
  case round =>
    obtain ⟨i, R, rfl, hi, hR, hrow, hbel⟩ := hrel
    by_cases hlt : i < n
    · obtain ⟨ad, rfl, _⟩ := (H.out.below hbel.out).cell hlt
      go_wp2_with fail
      obtain ⟨wo, rfl⟩ : ∃ wo : World, wo = wr := ⟨_, rfl⟩
      go_loopw [7, 8] (fun v7 v8 wr => ∃ j R c : Nat, v8 = .int .i64 j ∧ j ≤ m + 1 ∧ v7 = .int .u64 c ∧ c < 65536 ∧ Hid (j ≤ m → R < B16 ^ (i + m)) ∧ Hid (j = m + 1 → c = 0) ∧ Hid (R + c * B16 ^ (i + j) = X % B16 ^ i * Y + dig B16 X i * B16 ^ i * (Y % B16 ^ j)) ∧ Hid (Row .u32 B16 80 wr w.heap.size (n + m + 1) R) ∧ Hid (Below w.heap.size w wr)) (fun _ v _ => m + 1 - (intOf v).toNat)
      case atStart =>
        refine ⟨0, R, 0, rfl, Nat.zero_le _, rfl, by omega, ?_, fun h => by omega, ?_, hrow, hbel⟩
        · intro _
          rw [hR.out]
          exact mul_lt_pow (Nat.mod_lt _ (Nat.pow_pos B16_pos)) K.out.lt
        · show R + 0 * _ = _
          rw [hR.out, Nat.pow_zero, Nat.mod_one, Nat.zero_mul, Nat.mul_zero]
      case round =>
        clear hR hrow hbel R
        obtain ⟨j, R, c, rfl, hj, rfl, hc, hRlt, hend, hinv, hrow, hbel⟩ := hrel
        by_cases hgo : j < m ∨ (¬ j < m ∧ 0 < c)
        · have hjm : j ≤ m := by
            rcases hgo with h | ⟨h1, h2⟩
            · omega
            · apply Classical.byContradiction
              intro hn
              have := hend.out (by omega)
              omega
          obtain ⟨p, s1, s2, l2, c', e1, b1, e2, e3, e4, e5, bl2, bc', hstep⟩ := ref_step (dig16_lt X i) (dig16_lt Y j) (dig16_lt R (i + j)) hc
          have hdx := dig16_lt X i
          have hdy := dig16_lt Y j
          have hdr := dig16_lt R (i + j)
          have hc0 : Hid (j = m → c' = 0) := by
            intro h
            subst h
            have h1 := dig_ge B16_pos K.out.lt (Nat.le_refl _)
            have h2 := dig_ge B16_pos (hRlt.out (Nat.le_refl _)) (Nat.le_refl _)
            rw [h1, Nat.mul_zero] at e1
            rw [h2] at e2
            omega
          have hwx := wrap_u64 (dig B16 X i) (by rw [B64_eq]; omega)
          have hwy := wrap_u64 (dig B16 Y j) (by rw [B64_eq]; omega)
          have hwd := wrap_u64 (dig B16 R (i + j)) (by rw [B64_eq]; omega)
          have hw1 : IntKind.u64.wrap (((dig B16 X i : Nat) : Int) * ((dig B16 Y j : Nat) : Int)) = (p : Nat) := by
            rw [← Int.natCast_mul, ← e1]
            exact wrap_u64 p (by rw [B64_eq]; omega)
          have hw2 : IntKind.u64.wrap (((dig B16 R (i + j) : Nat) : Int) + (p : Nat)) = (s1 : Nat) := by
            rw [IntKind.wrap_u64]; omega
          have hw3 : IntKind.u64.wrap ((s1 : Int) + (c : Nat)) = (s2 : Nat) := by
            rw [IntKind.wrap_u64]; omega
          have hrem : (s2 : Int) % 65536 = (l2 : Nat) := by omega
          have hquo : (s2 : Int) / 65536 = (c' : Nat) := by omega
          have hwl := wrap_u32 l2 (by omega)
          have hwl2 : (l2 : Int) % 4294967296 = (l2 : Nat) := by omega
          have hwc := wrap_u64 c' (by rw [B64_eq]; omega)
          have hstep' := Lib.hid hstep
          have bl2' := Lib.hid bl2
          have bc2' := Lib.hid bc'
          obtain ⟨_, _, hcx⟩ := (H.out.below hbel.out).cell hlt
          rename_i he
          cases he
          have hcell := hrow.out.cell (show i + j < n + m + 1 by omega)
          have hfz := hrow.out.frozen (i + j)
          have hij : IntKind.i64.wrap ((i : Int) + (j : Int)) = (i : Int) + (j : Int) := IntWalk.i64_in _ (by omega)
          have hij2 : ((i : Int) + (j : Int)).toNat = i + j := by omega
          clear e1 b1 e2 e3 e4 e5 bl2 hstep hdx hdy hdr
          rcases hgo with hgo | ⟨hgo1, hgo2⟩
          all_goals
            go_wp2_with fail
            go_quiet ((go_at_call 62; exact quiet_eq (digit_calls _ m Y j _ _ ((K.out.below hbel.out).drewN _) (by omega) rfl)))
            go_wp2_with fail
            go_roundw
            case rel =>
              refine ⟨j + 1, put B16 R (i + j) l2, c', by go_num, by omega, rfl, bc2'.out, ?_, ?_, mul_inner hinv.out hstep'.out, ?_, (below_drewN hbel.out nq).setCell (Nat.le_refl _) _⟩
              · intro h
                exact put_lt B16_pos bl2'.out (by omega) (hRlt.out (by omega))
              · intro h
                exact hc0.out (by omega)
              · exact (hrow.out.drewN nq).set (i + j) l2 _ (put_lt B16_pos bl2'.out (by omega) hrow.out.2) (dig_put B16_pos bl2'.out)
            case measure => simp [intOf]; omega
        · have hjm : ¬ j < m := fun h => hgo (.inl h)
          obtain rfl : c = 0 := by
            apply Classical.byContradiction
            intro h
            exact hgo (.inr ⟨hjm, by omega⟩)
          have hR' : Hid (R = X % B16 ^ (i + 1) * Y) := by
            have h1 := hinv.out
            have hY := Nat.lt_of_lt_of_le K.out.lt (Nat.pow_le_pow_right B16_pos (show m ≤ j by omega))
            have h2 := mul_outer hY h1
            rw [Nat.zero_mul, Nat.add_zero] at h2
            exact h2
          clear hgo hinv hend hRlt
          go_wp2_with fail
          go_roundw
          case rel => exact ⟨i + 1, R, by go_num, by omega, hR', hrow, hbel⟩
          case measure => simp [intOf]; omega
    · obtain rfl : i = n := by omega
      have hend : Hid (R = X * Y) := by
        show R = X * Y
        rw [hR.out, Nat.mod_eq_of_lt H.out.lt]
      have hnum := Lib.hid (hrow.out.num (by omega))
      rw [hend.out] at hnum
      clear hR hrow
      go_wp2_with fail
      refine (trimA_calls _ (i + m + 1) (X * Y) wr hnum.out).mono ?_
      rintro e w' ⟨C, r, c2, rfl, rfl, hr, HC, hlc, hC0⟩
      cases hC0
      go_wp2
      go_ret
      exact ⟨_, r, _, rfl, HC, hlc, hbel.out, _, rfl⟩
theorem refMul_calls (v u : Value) (X Y n m : Nat) (w : World) (h : Num .u32 B16 w v X n) (k : Num .u32 B16 w u Y m) (hn : n ≤ 20000) (hm : m ≤ 20000) :
    Calls Tryz.prog 36 #[v, u] w fun e w' => ∃ A r c, e = .returned (.slice A r c) ∧ Num .u32 B16 w' (.slice A r c) (X * Y) r ∧ IsLen B16 (X * Y) r ∧ Below w.heap.size w w' :=
  (refMulA_calls v u X Y n m w h k hn hm).mono fun _ _ ⟨A, r, c, h1, h2, h3, h4, _⟩ => ⟨A, r, c, h1, h2, h3, h4⟩
end Go.Proofs.YtmobnjlbbhhedaaGreatDoor
