/- The walks of layer 1 (nat), each told by the number that it gives. -/
import Derived.Test.YtmobnjlbbhhedaaGreatDoorProg
import Derived.Test.YtmobnjlbbhhedaaGreatDoorMem
import Derived.KernelRfl
import Derived.Deep.LoopGhost
import Derived.Deep.QuietTactic
import Derived.BigQuiet
import Derived.Deep.DeepCutAuto
import Derived.Deep.CutBlock
import Derived.Deep.RegionHeld3
set_option linter.unusedVariables false
set_option linter.unusedSimpArgs false
namespace Go.Proofs.YtmobnjlbbhhedaaGreatDoor
open Go.RowKit

theorem natPlain_walk (A : Option Addr) (n c X : Nat) (w : World) (h : Num .u64 B64 w (.slice A n c) X n) :
    Calls Tryz.prog 50 #[.slice A n c] w fun e w' => ∃ m, e = .returned (.slice A m m) ∧ w = w' ∧ m ≤ n ∧ IsLen B64 X m := by
  obtain ⟨_, _, hx, hnc, hc⟩ : ∃ A0 c0, X < B64 ^ n ∧ n ≤ c ∧ c ≤ 9223372036854775807 := by
    obtain ⟨A0, c0, e, h1, h2, h3, _⟩ := h
    cases e
    exact ⟨A, c, h1, h2, h3⟩
  have HN := Lib.hid h
  have HX := Lib.hid hx
  clear h hx
  go_enter Tryz.func50, Tryz.ntmps50
  go_wp2
  go_loop [3] (fun v => ∃ m : Nat, v = .int .i64 m ∧ m ≤ n ∧ Hid (X < B64 ^ m)) (fun v => (intOf v).toNat)
  case atStart => exact ⟨n, rfl, Nat.le_refl _, HX⟩
  case round =>
    obtain ⟨m, rfl, hm, hxm⟩ := hrel
    cases m with
    | zero =>
      go_wp2
      go_ret
      exact ⟨0, rfl, rfl, Nat.zero_le _, by simpa using hxm.out, fun _ _ => Nat.zero_le _⟩
    | succ m =>
      obtain ⟨ad, rfl, hcell⟩ := HN.out.cell (show m < n by omega)
      by_cases hz : dig B64 X m = 0
      · rw [hz] at hcell
        go_wp2
        go_round
        case rel => exact ⟨m, rfl, by omega, lt_of_top B64_pos hxm.out hz⟩
        case measure => simp [intOf]
      · have hb : (((dig B64 X m : Nat) : Int) == 0) = false := by simp; omega
        go_wp2
        go_ret
        exact ⟨m + 1, rfl, rfl, hm, IsLen.of_top B64_pos hxm.out hz⟩

/-- Plain, as its callers use it. -/
theorem natPlain_calls (v : Value) (n X : Nat) (w : World) (h : Num .u64 B64 w v X n) :
    Calls Tryz.prog 50 #[v] w fun e w' => ∃ A m, e = .returned (.slice A m m) ∧ w = w' ∧ m ≤ n ∧ Num .u64 B64 w (.slice A m m) X m ∧ IsLen B64 X m := by
  obtain ⟨A, c, rfl, hnc, hc⟩ := h.form
  refine (natPlain_walk A n c X w h).mono ?_
  rintro e w' ⟨m, he, hw, hm, hl⟩
  exact ⟨A, m, he, hw, hm, h.take hm hl.1 m (Nat.le_refl _) (by omega), hl⟩

theorem natLimb_calls (v : Value) (n X k : Nat) (w : World) (h : Num .u64 B64 w v X n) (hk : k ≤ 50000) :
    Calls Tryz.prog 81 #[v, .int .i64 k] w fun e w' => e = .returned (.int .u64 (dig B64 X k : Nat)) ∧ w = w' := by
  obtain ⟨A, c, rfl, hnc, hc⟩ := h.form
  by_cases hlt : k < n
  · obtain ⟨ad, rfl, hcell⟩ := h.cell hlt
    clear h
    go_enter Tryz.func81, Tryz.ntmps81
    go_wp2
    go_ret
    exact ⟨rfl, rfl⟩
  · have hz : dig B64 X k = 0 := dig_ge B64_pos h.lt (by omega)
    rw [hz]
    clear h hz
    go_enter Tryz.func81, Tryz.ntmps81
    go_wp2
    go_ret
    exact ⟨rfl, rfl⟩

set_option maxHeartbeats 1000000 in
theorem natCmp_calls (v u : Value) (X Y n m : Nat) (w : World) (h : Num .u64 B64 w v X n) (k : Num .u64 B64 w u Y m) :
    Calls Tryz.prog 56 #[v, u] w fun e w' => e = .returned (.int .i64 (cmpN X Y)) ∧ ∃ nd, w' = w.drewN nd := by
  have H := Lib.hid h
  have K := Lib.hid k
  clear h k
  go_enter Tryz.func56, Tryz.ntmps56
  go_wp2_with fail
  refine (natPlain_calls v n X w H.out).mono ?_
  rintro e w' ⟨A, a, rfl, rfl, ha, HA, hla⟩
  go_wp2_with fail
  refine (natPlain_calls u m Y w K.out).mono ?_
  rintro e w' ⟨B, b, rfl, rfl, hb, HB, hlb⟩
  clear H K ha hb
  have ham := HA.form
  obtain ⟨_, _, _, _, ham⟩ := HA.form
  obtain ⟨_, _, _, _, hbm⟩ := HB.form
  rcases Nat.lt_trichotomy a b with hab | hab | hab
  · have hf := Lib.hid (cmpN_lt (IsLen.lt_of_lt hla hlb hab))
    clear HA HB hla hlb
    go_wp2
    go_ret
    exact ⟨by rw [hf.out]; rfl, 0, rfl⟩
  · subst hab
    have hab' : decide ((a : Int) < (a : Int)) = false := by simp
    go_wp2
    go_loopw [5] (fun v wr => ∃ j : Int, v = .int .i64 j ∧ -1 ≤ j ∧ j < a ∧ Hid (X / B64 ^ (j + 1).toNat = Y / B64 ^ (j + 1).toNat) ∧ ∃ nd, wr = w.drewN nd) (fun v _ => (intOf v + 1).toNat)
    case atStart =>
      refine ⟨_, rfl, by omega, by omega, ?_, 0, rfl⟩
      have e : ((a : Int) - 1 + 1).toNat = a := by omega
      rw [e]
      show X / B64 ^ a = Y / B64 ^ a
      rw [Nat.div_eq_of_lt hla.1, Nat.div_eq_of_lt hlb.1]
    case round =>
      obtain ⟨j, rfl, hj, hja, heq, nd, rfl⟩ := hrel
      by_cases hj0 : 0 ≤ j
      · obtain ⟨i, rfl⟩ := Int.eq_ofNat_of_zero_le hj0
        obtain ⟨ad, rfl, hc1⟩ := HA.cell (show i < a by omega)
        obtain ⟨bd, rfl, hc2⟩ := HB.cell (show i < a by omega)
        have heq' : Hid (X / B64 ^ (i + 1) = Y / B64 ^ (i + 1)) := by
          have e : ((i : Int) + 1).toNat = i + 1 := by omega
          rw [e] at heq
          exact heq
        clear HA HB hla hlb heq
        rcases Nat.lt_trichotomy (dig B64 X i) (dig B64 Y i) with hd | hd | hd
        · have hf := Lib.hid (cmpN_lt (lt_of_dig heq'.out hd))
          have hd1 : decide (dig B64 X i < dig B64 Y i) = true := by simp; omega
          clear hd
          go_wp2
          go_quiet (fail)
          go_wp2
          go_ret
          exact ⟨by rw [hf.out]; rfl, (by first | exact ⟨_, rfl⟩ | exact ⟨_, by rw [World.drewN_drewN]⟩ | exact ⟨_, by rw [World.drewN_drewN, World.drewN_drewN]⟩ | exact ⟨_, by rw [World.drewN_drewN, World.drewN_drewN, World.drewN_drewN]⟩)⟩
        · have hf := Lib.hid (eq_step heq'.out hd)
          have hd1 : decide (dig B64 X i < dig B64 Y i) = false := by simp; omega
          have hd2 : decide (dig B64 Y i < dig B64 X i) = false := by simp; omega
          clear hd heq'
          go_wp2
          go_quiet (fail)
          go_wp2
          go_quiet (fail)
          go_wp2
          go_roundw
          case rel =>
            refine ⟨(i : Int) - 1, rfl, by omega, by omega, ?_, (by first | exact ⟨_, rfl⟩ | exact ⟨_, by rw [World.drewN_drewN]⟩ | exact ⟨_, by rw [World.drewN_drewN, World.drewN_drewN]⟩ | exact ⟨_, by rw [World.drewN_drewN, World.drewN_drewN, World.drewN_drewN]⟩)⟩
            have e : ((i : Int) - 1 + 1).toNat = i := by omega
            rw [e]
            exact hf
          case measure => simp [intOf]; try omega
        · have hf := Lib.hid (cmpN_gt (lt_of_dig heq'.out.symm hd))
          have hd1 : decide (dig B64 X i < dig B64 Y i) = false := by simp; omega
          have hd2 : decide (dig B64 Y i < dig B64 X i) = true := by simp; omega
          clear hd heq'
          go_wp2
          go_quiet (fail)
          go_wp2
          go_quiet (fail)
          go_wp2
          go_ret
          exact ⟨by rw [hf.out]; rfl, (by first | exact ⟨_, rfl⟩ | exact ⟨_, by rw [World.drewN_drewN]⟩ | exact ⟨_, by rw [World.drewN_drewN, World.drewN_drewN]⟩ | exact ⟨_, by rw [World.drewN_drewN, World.drewN_drewN, World.drewN_drewN]⟩)⟩
      · have hf : Hid (cmpN X Y = 0) := by
          have e : (j + 1).toNat = 0 := by omega
          rw [e] at heq
          refine cmpN_eq ?_
          have := heq.out
          rwa [div_pow_zero, div_pow_zero] at this
        clear heq
        go_wp2
        go_ret
        exact ⟨by rw [hf.out]; rfl, nd, rfl⟩
  · have hf := Lib.hid (cmpN_gt (IsLen.lt_of_lt hlb hla hab))
    clear HA HB hla hlb
    go_wp2
    go_ret
    exact ⟨by rw [hf.out]; rfl, 0, rfl⟩
end Go.Proofs.YtmobnjlbbhhedaaGreatDoor
