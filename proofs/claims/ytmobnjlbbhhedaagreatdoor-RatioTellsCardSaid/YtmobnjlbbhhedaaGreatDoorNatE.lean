/- The walks of nat.Shr, bits.Len64 and nat.Len. -/
import Derived.Test.YtmobnjlbbhhedaaGreatDoorNatD
import Derived.IntWalk
set_option linter.unusedVariables false
set_option linter.unusedSimpArgs false
namespace Go.Proofs.YtmobnjlbbhhedaaGreatDoor
open Go.RowKit

theorem natLimb_at (v : Value) (n X k : Nat) (j : Int) (w : World) (h : Num .u64 B64 w v X n) (hk : k ≤ 50000) (hj : j = (k : Int)) :
    Calls Tryz.prog 81 #[v, .int .i64 j] w fun e w' => e = .returned (.int .u64 (dig B64 X k : Nat)) ∧ w = w' := by
  subst hj
  exact natLimb_calls v n X k w h hk

theorem wrap_dbl (y : Nat) : IntKind.u64.wrap ((y : Int) * 2) = ((y * 2 % B64 : Nat) : Int) := by
  rw [IntKind.wrap_u64, B64_eq]
  omega

set_option maxHeartbeats 1000000 in
set_option maxRecDepth 100000 in
theorem natShr_calls (v : Value) (X n m : Nat) (z : Int) (w : World) (h : Num .u64 B64 w v X m) (hm : m ≤ 20000) (hz : n = z.toNat) (hn : n ≤ 9223372036854775807) :
    Calls Tryz.prog 55 #[v, .int .i64 z] w fun e w' => ∃ A r c, e = .returned (.slice A r c) ∧ Num .u64 B64 w' (.slice A r c) (X / 2 ^ n) r ∧ IsLen B64 (X / 2 ^ n) r ∧ Below w.heap.size w w' := by
  have H := Lib.hid h
  clear h
  have hmx : ∀ (ts : Array TypeId) (t : TypeId) (w : World), (Builtin.max_ ts t #[.int .i64 z, .int .i64 0]).run Tryz.prog w = .ok (.int .i64 (n : Nat)) w := fun ts t w => by
    rw [run_max_int2]
    have : (if (0 : Int) > z then (0 : Int) else z) = (n : Nat) := by split <;> omega
    rw [this]
  clear hz
  go_enter Tryz.func55, Tryz.ntmps55
  go_wp2_with fail
  refine (natPlain_calls v m X w H.out).mono ?_
  rintro e w' ⟨A, a, rfl, rfl, ha, HA, hla⟩
  have HA' := Lib.hid HA
  have hl := Lib.hid hla
  clear HA hla H
  obtain ⟨q, s, hs, hns⟩ : ∃ q s, s < 64 ∧ n = 64 * q + s := ⟨n / 64, n % 64, Nat.mod_lt _ (by omega), (Nat.div_add_mod n 64).symm⟩
  have hq : (n : Int) / 64 = (q : Int) := by omega
  have hr : (n : Int) % 64 = (s : Int) := by omega
  have hns' := Lib.hid hns
  clear hns
  by_cases haq : a ≤ q
  · have hz : X / 2 ^ n = 0 := by
      rw [hns'.out, div_two_pow, Nat.div_eq_of_lt (Nat.lt_of_lt_of_le hl.out.1 (Nat.pow_le_pow_right B64_pos haq)), Nat.zero_div]
    have hz' := Lib.hid hz
    clear hz
    go_wp2_with fail
    go_ret
    exact ⟨_, _, _, rfl, by rw [hz'.out]; exact Num.nil .., by rw [hz'.out]; exact IsLen.zero _, Below.refl _ _⟩
  · obtain ⟨ad, rfl, _⟩ := HA'.out.cell (show q < a by omega)
    have hD := Lib.hid (HA'.out.drop B64_pos (show q ≤ a by omega) (a - q) (Nat.le_refl _) (by omega))
    go_wp2_with fail
    refine (clone_calls _ (X / B64 ^ q) (a - q) w hD.out (by omega)).mono ?_
    rintro e w1 ⟨cv, rfl, hcv, hb1⟩
    obtain ⟨_, h0⟩ | ⟨g, c2, rfl, hg, hac, hc2, hrow⟩ := hcv.row B64_pos
    · omega
    have hlt := hD.out.lt
    rw [Nat.mod_eq_of_lt hlt] at hrow
    have hlt' := Lib.hid hlt
    have hrow' := Lib.hid hrow
    have hb1' := Lib.hid hb1
    clear hlt hrow hb1 hcv hD
    have hP := Lib.hid (div_two_pow X q s)
    obtain ⟨Y, hY⟩ : ∃ Y, Y = X / B64 ^ q := ⟨_, rfl⟩
    rw [← hY] at hlt' hrow' hP
    have hY' := Lib.hid hY
    clear hY
    go_wp2_with fail
    go_loopw [23] (fun v23 wr => ∃ i : Nat, v23 = .int .i64 i ∧ i ≤ a - q ∧ Hid (Row .u64 B64 79 wr g (a - q) (mix B64 (Y / 2 ^ s) Y i)) ∧ Hid (Below w.heap.size w wr)) (fun v _ => a - q - (intOf v).toNat)
    case atStart => exact ⟨0, rfl, Nat.zero_le _, by rw [mix_zero]; exact hrow', hb1'⟩
    case round =>
      clear hrow' hb1'
      obtain ⟨i, rfl, hi, hrow, hbel⟩ := hrel
      by_cases hlt : i < a - q
      · have hcell := hrow.out.cell hlt
        rw [dig_mix B64_pos, if_neg (by omega)] at hcell
        have hfz := hrow.out.frozen i
        obtain ⟨x2, hx2⟩ : ∃ x2, x2 = dig B64 Y i / 2 ^ s := ⟨_, rfl⟩
        obtain ⟨p, hp⟩ : ∃ p, p = dig B64 Y (i + 1) * 2 % B64 := ⟨_, rfl⟩
        obtain ⟨p2, hp2⟩ : ∃ p2, p2 = p * 2 ^ (63 - s) % B64 := ⟨_, rfl⟩
        have hw0 : ((dig B64 Y i : Nat) : Int) / 2 ^ s = (x2 : Nat) := by rw [hx2]; simp
        have hw1 := wrap_dbl (dig B64 Y (i + 1))
        rw [← hp] at hw1
        have hw2 := wrap_shl p (63 - s)
        rw [← hp2] at hw2
        have hor : bits .or .u64 (x2 : Int) (p2 : Int) = ((dig B64 (Y / 2 ^ s) i : Nat) : Int) := by
          rw [or_u64 x2 p2 (by rw [hx2]; exact Nat.lt_of_le_of_lt (Nat.div_le_self _ _) (dig_lt B64_pos _ _)) (by rw [hp2]; exact Nat.mod_lt _ B64_pos), ← shr_or Y s i hs, hx2, hp2, hp]
          congr 2
          rw [Nat.mod_mul_mod, Nat.mul_assoc]
          congr 2
          rw [Nat.mul_comm, ← Nat.pow_succ]
          congr 1
          omega
        have hnum := Lib.hid (hrow.out.numc c2 hac hc2)
        clear hx2 hp hp2
        go_wp2_with fail
        have ht1 : (n : Int).tmod 64 = (s : Int) := by rw [Int.tmod_eq_emod_of_nonneg (by omega)]; exact hr
        have ht2 : IntKind.i64.wrap ((i : Int) + 1) = (i : Int) + 1 := IntWalk.i64_in _ (by omega)
        have ht3 : IntKind.i64.wrap (63 - (s : Int)) = 63 - (s : Int) := IntWalk.i64_in _ (by omega)
        go_region_with (go_at_call 81; refine (natLimb_at _ (a - q) (mix B64 (Y / 2 ^ s) Y i) (i + 1) _ _ ?_ (by omega) (by omega)).mono ?_; exact hnum.out; rintro e w' ⟨rfl, rfl⟩; rw [dig_mix B64_pos, if_neg (by omega)])
        clear ht1 ht2 ht3
        all_goals
          go_wp2_with fail
          go_roundw
          case rel =>
            refine ⟨i + 1, by go_num, by omega, ?_, ?_⟩
            · exact (hrow.out.set i _ (mix B64 (Y / 2 ^ s) Y (i + 1)) (mix_lt B64_pos (by omega) hlt'.out) (fun j => mix_next B64_pos _ _ i j)).drewN 1
            · exact (hbel.out.setCell hg _).drew
          case measure => simp [intOf]; omega
      · obtain rfl : i = a - q := by omega
        have hall : mix B64 (Y / 2 ^ s) Y (a - q) = Y / 2 ^ s := mix_all B64_pos (Nat.lt_of_le_of_lt (Nat.div_le_self _ _) hlt'.out) hlt'.out
        have hnum := Lib.hid (hrow.out.numc c2 hac hc2)
        rw [hall] at hnum
        clear hall hrow
        go_wp2_with fail
        refine (natPlain_calls _ (a - q) (Y / 2 ^ s) wr hnum.out).mono ?_
        rintro e w' ⟨C, r, rfl, rfl, hr2, HC, hlc⟩
        go_wp2
        go_ret
        refine ⟨C, r, r, rfl, ?_, ?_, hbel.out⟩
        · rw [hns'.out, hP.out]; exact HC
        · rw [hns'.out, hP.out]; exact hlc
end Go.Proofs.YtmobnjlbbhhedaaGreatDoor
