/- The walks of the reference's digits: Trim, digit, Same, Cmp, Digits, Limbs. -/
import Derived.Test.YtmobnjlbbhhedaaGreatDoorProg
import Derived.Test.YtmobnjlbbhhedaaGreatDoorMem
import Derived.Test.YtmobnjlbbhhedaaGreatDoorNumB
import Derived.KernelRfl
import Derived.Deep.LoopGhost
import Derived.Deep.QuietTactic
import Derived.BigQuiet
import Derived.Deep.DeepCutAuto
import Derived.Deep.CutBlock
import Derived.Deep.RegionHeld3
import Derived.Deep.RegionWith
import Derived.WalkSmall
import Derived.IntWalk
set_option linter.unusedVariables false
set_option linter.unusedSimpArgs false
namespace Go.Proofs.YtmobnjlbbhhedaaGreatDoor
open Go.RowKit

theorem info16 : (Tryz.prog.info? 80).map (fun i => (i.zero, i.size, i.bytes)) = some (some (.int .u32 0), 1, 4) := by kernel_rfl
theorem info64r : (Tryz.prog.info? 79).map (fun i => (i.zero, i.size, i.bytes)) = some (some (.int .u64 0), 1, 8) := by kernel_rfl

theorem trimA_calls (v : Value) (n X : Nat) (w : World) (h : Num .u32 B16 w v X n) :
    Calls Tryz.prog 47 #[v] w fun e w' => ∃ A m c, e = .returned (.slice A m c) ∧ w = w' ∧ m ≤ n ∧ Num .u32 B16 w (.slice A m c) X m ∧ IsLen B16 X m ∧ v = .slice A n c := by
  obtain ⟨A, c, rfl, hnc, hc⟩ := h.form
  have HN := Lib.hid h
  have HX := Lib.hid h.lt
  clear h
  go_enter Tryz.func47, Tryz.ntmps47
  go_wp2
  go_loop [3] (fun v => ∃ m : Nat, v = .int .i64 m ∧ m ≤ n ∧ Hid (X < B16 ^ m)) (fun v => (intOf v).toNat)
  case atStart => exact ⟨n, rfl, Nat.le_refl _, HX⟩
  case round =>
    obtain ⟨m, rfl, hm, hxm⟩ := hrel
    cases m with
    | zero =>
      go_wp2
      go_ret
      refine ⟨A, 0, c, rfl, rfl, Nat.zero_le _, HN.out.take (Nat.zero_le _) hxm.out c (Nat.zero_le _) (Nat.le_refl _), ⟨by simpa using hxm.out, fun _ _ => Nat.zero_le _⟩, rfl, rfl⟩
    | succ m =>
      obtain ⟨ad, rfl, hcell⟩ := HN.out.cell (show m < n by omega)
      by_cases hz : dig B16 X m = 0
      · rw [hz] at hcell
        go_wp2
        go_round
        case rel => exact ⟨m, rfl, by omega, lt_of_top B16_pos hxm.out hz⟩
        case measure => simp [intOf]
      · have hb : (((dig B16 X m : Nat) : Int) == 0) = false := by simp; omega
        go_wp2
        go_ret
        exact ⟨_, m + 1, c, rfl, rfl, hm, HN.out.take hm hxm.out c (by omega) (Nat.le_refl _), IsLen.of_top B16_pos hxm.out hz, rfl, rfl⟩
theorem trim_calls (v : Value) (n X : Nat) (w : World) (h : Num .u32 B16 w v X n) :
    Calls Tryz.prog 47 #[v] w fun e w' => ∃ A m c, e = .returned (.slice A m c) ∧ w = w' ∧ m ≤ n ∧ Num .u32 B16 w (.slice A m c) X m ∧ IsLen B16 X m :=
  (trimA_calls v n X w h).mono fun _ _ ⟨A, m, c, h1, h2, h3, h4, h5, _⟩ => ⟨A, m, c, h1, h2, h3, h4, h5⟩

theorem digit_calls (v : Value) (n X k : Nat) (j : Int) (w : World) (h : Num .u32 B16 w v X n) (hk : k ≤ 60000) (hj : j = (k : Int)) :
    Calls Tryz.prog 62 #[v, .int .i64 j] w fun e w' => e = .returned (.int .u32 (dig B16 X k : Nat)) ∧ w = w' := by
  subst hj
  obtain ⟨A, c, rfl, hnc, hc⟩ := h.form
  by_cases hlt : k < n
  · obtain ⟨ad, rfl, hcell⟩ := h.cell hlt
    clear h
    go_enter Tryz.func62, Tryz.ntmps62
    go_wp2
    go_ret
    exact ⟨rfl, rfl⟩
  · have hz : dig B16 X k = 0 := dig_ge B16_pos h.lt (by omega)
    rw [hz]
    clear h hz
    go_enter Tryz.func62, Tryz.ntmps62
    go_wp2
    go_ret
    exact ⟨rfl, rfl⟩

set_option maxHeartbeats 1000000 in
theorem same_calls (v u : Value) (X Y n m : Nat) (w : World) (h : Num .u64 B64 w v X n) (k : Num .u64 B64 w u Y m) :
    Calls Tryz.prog 46 #[v, u] w fun e w' => ∃ b, e = .returned (.bool b) ∧ (b = true ↔ n = m ∧ X = Y) ∧ ∃ nd, w' = w.drewN nd := by
  obtain ⟨A, c, rfl, hnc, hc⟩ := h.form
  obtain ⟨B, d, rfl, hmd, hd⟩ := k.form
  have H := Lib.hid h
  have K := Lib.hid k
  clear h k
  by_cases hnm : n = m
  · subst hnm
    go_enter Tryz.func46, Tryz.ntmps46
    go_wp2_with fail
    go_loopw [5] (fun v wr => ∃ i : Nat, v = .int .i64 i ∧ i ≤ n ∧ Hid (X % B64 ^ i = Y % B64 ^ i) ∧ ∃ nd, wr = w.drewN nd) (fun v _ => n - (intOf v).toNat)
    case atStart => exact ⟨0, rfl, Nat.zero_le _, by show X % B64 ^ 0 = Y % B64 ^ 0; rw [Nat.pow_zero, Nat.mod_one, Nat.mod_one], 0, rfl⟩
    case round =>
      obtain ⟨i, rfl, hi, heq, nd, rfl⟩ := hrel
      by_cases hlt : i < n
      · obtain ⟨ad, rfl, hc1⟩ := H.out.cell hlt
        obtain ⟨bd, rfl, hc2⟩ := K.out.cell hlt
        by_cases hde : dig B64 X i = dig B64 Y i
        · have hb : (((dig B64 X i : Nat) : Int) != ((dig B64 Y i : Nat) : Int)) = false := by simp [hde]
          have hde' := Lib.hid hde
          clear hde
          go_wp2_with fail
          go_quiet (fail)
          go_wp2_with fail
          go_roundw
          case rel => exact ⟨i + 1, by go_num, by omega, by show _ = _; rw [mod_pow_succ', mod_pow_succ', heq.out, hde'.out], (by first | exact ⟨_, rfl⟩ | exact ⟨_, by rw [World.drewN_drewN]⟩ | exact ⟨_, by rw [World.drewN_drewN, World.drewN_drewN]⟩ | exact ⟨_, by rw [World.drewN_drewN, World.drewN_drewN, World.drewN_drewN]⟩)⟩
          case measure => simp [intOf]; omega
        · have hb : (((dig B64 X i : Nat) : Int) != ((dig B64 Y i : Nat) : Int)) = true := by simp; omega
          have hne : Hid (X ≠ Y) := fun e => hde (by rw [e])
          clear hde
          go_wp2_with fail
          go_quiet (fail)
          go_wp2_with fail
          go_ret
          exact ⟨false, rfl, by simp; exact hne.out, (by first | exact ⟨_, rfl⟩ | exact ⟨_, by rw [World.drewN_drewN]⟩ | exact ⟨_, by rw [World.drewN_drewN, World.drewN_drewN]⟩ | exact ⟨_, by rw [World.drewN_drewN, World.drewN_drewN, World.drewN_drewN]⟩)⟩
      · obtain rfl : i = n := by omega
        have hXY : Hid (X = Y) := by
          have := heq.out
          rwa [Nat.mod_eq_of_lt H.out.lt, Nat.mod_eq_of_lt K.out.lt] at this
        go_wp2_with fail
        go_ret
        exact ⟨true, rfl, by simp; exact hXY.out, (by first | exact ⟨_, rfl⟩ | exact ⟨_, by rw [World.drewN_drewN]⟩ | exact ⟨_, by rw [World.drewN_drewN, World.drewN_drewN]⟩ | exact ⟨_, by rw [World.drewN_drewN, World.drewN_drewN, World.drewN_drewN]⟩)⟩
  · have hb : ((n : Int) != (m : Int)) = true := by simp; omega
    have hnm' := Lib.hid hnm
    clear hnm
    go_enter Tryz.func46, Tryz.ntmps46
    go_wp2_with fail
    go_ret
    exact ⟨false, rfl, by simp; intro e; exact absurd e hnm'.out, 0, rfl⟩

set_option maxHeartbeats 1000000 in
theorem refCmp_calls (v u : Value) (X Y n m : Nat) (w : World) (h : Num .u32 B16 w v X n) (k : Num .u32 B16 w u Y m) :
    Calls Tryz.prog 69 #[v, u] w fun e w' => e = .returned (.int .i64 (cmpN X Y)) ∧ ∃ nd, w' = w.drewN nd := by
  have H := Lib.hid h
  have K := Lib.hid k
  clear h k
  go_enter Tryz.func69, Tryz.ntmps69
  go_wp2_with fail
  refine (trim_calls v n X w H.out).mono ?_
  rintro e w' ⟨A, a, ca, rfl, rfl, ha, HA, hla⟩
  go_wp2_with fail
  refine (trim_calls u m Y w K.out).mono ?_
  rintro e w' ⟨B, b, cb, rfl, rfl, hb, HB, hlb⟩
  clear H K ha hb
  obtain ⟨_, _, _, hac, ham⟩ := HA.form
  obtain ⟨_, _, _, hbc, hbm⟩ := HB.form
  rcases Nat.lt_trichotomy a b with hab | hab | hab
  · have hf := Lib.hid (cmpN_lt (IsLen.lt_of_lt hla hlb hab))
    have hne : ((a : Int) != (b : Int)) = true := by simp; omega
    clear HA HB hla hlb
    go_wp2_with fail
    go_ret
    exact ⟨by rw [hf.out]; rfl, 0, rfl⟩
  · subst hab
    have hne : ((a : Int) != (a : Int)) = false := by simp
    have HA' := Lib.hid HA
    have HB' := Lib.hid HB
    have hla' := Lib.hid hla
    have hlb' := Lib.hid hlb
    clear HA HB hla hlb
    go_wp2_with fail
    go_loopw [5] (fun v wr => ∃ j : Int, v = .int .i64 j ∧ -1 ≤ j ∧ j < a ∧ Hid (X / B16 ^ (j + 1).toNat = Y / B16 ^ (j + 1).toNat) ∧ ∃ nd, wr = w.drewN nd) (fun v _ => (intOf v + 1).toNat)
    case atStart =>
      refine ⟨_, rfl, by omega, by omega, ?_, 0, rfl⟩
      have e : ((a : Int) - 1 + 1).toNat = a := by omega
      rw [e]
      show X / B16 ^ a = Y / B16 ^ a
      rw [Nat.div_eq_of_lt hla'.out.1, Nat.div_eq_of_lt hlb'.out.1]
    case round =>
      obtain ⟨j, rfl, hj, hja, heq, nd, rfl⟩ := hrel
      by_cases hj0 : 0 ≤ j
      · obtain ⟨i, rfl⟩ := Int.eq_ofNat_of_zero_le hj0
        obtain ⟨ad, rfl, hc1⟩ := HA'.out.cell (show i < a by omega)
        obtain ⟨bd, rfl, hc2⟩ := HB'.out.cell (show i < a by omega)
        have heq' : Hid (X / B16 ^ (i + 1) = Y / B16 ^ (i + 1)) := by
          have e : ((i : Int) + 1).toNat = i + 1 := by omega
          rw [e] at heq
          exact heq
        clear HA' HB' hla' hlb' heq
        rcases Nat.lt_trichotomy (dig B16 X i) (dig B16 Y i) with hd | hd | hd
        · have hf := Lib.hid (cmpN_lt (lt_of_dig heq'.out hd))
          have hd1 : decide (dig B16 X i < dig B16 Y i) = true := by simp; omega
          clear hd
          go_wp2_with fail
          go_quiet (fail)
          go_wp2_with fail
          go_ret
          exact ⟨by rw [hf.out]; rfl, (by first | exact ⟨_, rfl⟩ | exact ⟨_, by rw [World.drewN_drewN]⟩ | exact ⟨_, by rw [World.drewN_drewN, World.drewN_drewN]⟩ | exact ⟨_, by rw [World.drewN_drewN, World.drewN_drewN, World.drewN_drewN]⟩)⟩
        · have hf := Lib.hid (eq_step heq'.out hd)
          have hd1 : decide (dig B16 X i < dig B16 Y i) = false := by simp; omega
          have hd2 : decide (dig B16 Y i < dig B16 X i) = false := by simp; omega
          clear hd heq'
          go_wp2_with fail
          go_quiet (fail)
          go_wp2_with fail
          go_quiet (fail)
          go_wp2_with fail
          go_roundw
          case rel =>
            refine ⟨(i : Int) - 1, rfl, by omega, by omega, ?_, (by first | exact ⟨_, rfl⟩ | exact ⟨_, by rw [World.drewN_drewN]⟩ | exact ⟨_, by rw [World.drewN_drewN, World.drewN_drewN]⟩ | exact ⟨_, by rw [World.drewN_drewN, World.drewN_drewN, World.drewN_drewN]⟩)⟩
            have e : ((i : Int) - 1 + 1).toNat = i := by omega
            rw [e]
            exact hf
          case measure => simp [intOf]; try omega
        · have hf := Lib.hid (cmpN_gt (lt_of_dig heq'.out.symm hd))
          have hd1 : decide (dig B16 X i < dig B16 Y i) = false := by simp; omega
          have hd2 : decide (dig B16 Y i < dig B16 X i) = true := by simp; omega
          clear hd heq'
          go_wp2_with fail
          go_quiet (fail)
          go_wp2_with fail
          go_quiet (fail)
          go_wp2_with fail
          go_ret
          exact ⟨by rw [hf.out]; rfl, (by first | exact ⟨_, rfl⟩ | exact ⟨_, by rw [World.drewN_drewN]⟩ | exact ⟨_, by rw [World.drewN_drewN, World.drewN_drewN]⟩ | exact ⟨_, by rw [World.drewN_drewN, World.drewN_drewN, World.drewN_drewN]⟩)⟩
      · have hf : Hid (cmpN X Y = 0) := by
          have e : (j + 1).toNat = 0 := by omega
          rw [e] at heq
          refine cmpN_eq ?_
          have := heq.out
          rwa [div_pow_zero, div_pow_zero] at this
        clear heq
        go_wp2_with fail
        go_ret
        exact ⟨by rw [hf.out]; rfl, nd, rfl⟩
  · have hf := Lib.hid (cmpN_gt (IsLen.lt_of_lt hlb hla hab))
    have hne : ((a : Int) != (b : Int)) = true := by simp; omega
    clear HA HB hla hlb
    go_wp2_with fail
    go_ret
    exact ⟨by rw [hf.out]; rfl, 0, rfl⟩
end Go.Proofs.YtmobnjlbbhhedaaGreatDoor
