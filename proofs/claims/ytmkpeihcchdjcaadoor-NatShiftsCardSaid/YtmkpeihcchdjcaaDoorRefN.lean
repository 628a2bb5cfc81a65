/- The walks of the reference's Len and Shr. -/
import Derived.Test.YtmkpeihcchdjcaaDoorRefE
import Derived.Test.YtmkpeihcchdjcaaDoorNatF
set_option linter.unusedVariables false
set_option linter.unusedSimpArgs false
namespace Go.Proofs.YtmkpeihcchdjcaaDoor
open Go.RowKit

/-- A number's length in bits, by its digits. -/
theorem isLen_digits2 {X n k : Nat} (h : IsLen B16 X (n + 1)) (hk : IsLen 2 (dig B16 X n) k) : IsLen 2 X (16 * n + k) := by
  have hp := Nat.pow_pos (n := n) B16_pos
  have hdiv : X / B16 ^ n = dig B16 X n := by
    have h1 : X / B16 ^ n < B16 := by
      rw [Nat.div_lt_iff_lt_mul hp, Nat.mul_comm, ← Nat.pow_succ]; exact h.1
    unfold dig
    rw [Nat.mod_eq_of_lt h1]
  have e : ∀ j, 2 ^ (16 * n + j) = 2 ^ j * B16 ^ n := fun j => by rw [B16_pow, ← Nat.pow_add, Nat.add_comm]
  have htop := h.top_ne B16_pos
  refine ⟨?_, fun m hm => ?_⟩
  · rw [e, ← Nat.div_lt_iff_lt_mul hp, hdiv]
    exact hk.1
  · apply Classical.byContradiction
    intro hlt
    by_cases hm64 : 16 * n ≤ m
    · obtain ⟨j, rfl⟩ : ∃ j, m = 16 * n + j := ⟨m - 16 * n, by omega⟩
      rw [e, ← Nat.div_lt_iff_lt_mul hp, hdiv] at hm
      have := hk.2 j hm
      omega
    · have h2 : X < 2 ^ (16 * n + 0) := Nat.lt_of_lt_of_le hm (Nat.pow_le_pow_right (by omega) (by omega))
      rw [e, Nat.pow_zero, Nat.one_mul] at h2
      exact htop (dig_ge B16_pos h2 (Nat.le_refl _))
theorem isLen2_of {d j : Nat} (h0 : d / 2 ^ j = 0) (h1 : j = 0 ∨ 0 < d / 2 ^ (j - 1)) : IsLen 2 d j := by
  have hp := Nat.two_pow_pos j
  have hd : d < 2 ^ j := by
    rcases Nat.div_eq_zero_iff.1 h0 with h | h
    · omega
    · exact h
  refine ⟨hd, fun m hm => ?_⟩
  rcases h1 with h1 | h1
  · omega
  · have h2 : 2 ^ (j - 1) ≤ d := by
      have := Nat.two_pow_pos (j - 1)
      apply Classical.byContradiction
      intro hlt
      rw [Nat.div_eq_of_lt (by omega)] at h1
      omega
    have := (Nat.pow_lt_pow_iff_right (a := 2) (by omega)).1 (Nat.lt_of_le_of_lt h2 hm)
    omega
set_option maxHeartbeats 1000000 in
set_option maxRecDepth 100000 in
theorem refLen_calls (v : Value) (X m : Nat) (w : World) (h : Num .u32 B16 w v X m) (hm : m ≤ 40000) :
    Calls Tryd.prog 26 #[v] w fun e w' => ∃ n : Nat, e = .returned (.int .i64 n) ∧ IsLen 2 X n ∧ w = w' := by
  have H := Lib.hid h
  clear h
  go_enter Tryd.func26, Tryd.ntmps26
  go_wp2_with fail
  refine (trim_calls v m X w H.out).mono ?_
  rintro e w' ⟨A, a, c, rfl, rfl, ha, HA, hla⟩
  have HA' := Lib.hid HA
  have hl := Lib.hid hla
  clear HA hla H
  cases a with
  | zero =>
    have hX : X = 0 := by have := hl.out.1; simpa using this
    have hX' := Lib.hid hX
    clear hX
    go_wp2_with fail
    go_ret
    exact ⟨0, rfl, by rw [hX'.out]; exact IsLen.zero 2, rfl⟩
  | succ a =>
    obtain ⟨ad, rfl, hcell⟩ := HA'.out.cell (show a < a + 1 by omega)
    have hd := dig16_lt X a
    obtain ⟨d, hdd⟩ : ∃ d, d = dig B16 X a := ⟨_, rfl⟩
    rw [← hdd] at hcell hd
    have hdd' := Lib.hid hdd
    clear hdd
    go_wp2_with fail
    go_loop [3, 4] (fun v3 v4 => ∃ j y : Nat, v3 = .int .i64 (16 * (a : Int) + (j : Int)) ∧ v4 = .int .u32 y ∧ y < 65536 ∧ j ≤ 16 ∧ Hid (y = d / 2 ^ j) ∧ Hid (j = 0 ∨ 0 < d / 2 ^ (j - 1))) (fun _ v => (intOf v).toNat)
    case atStart => exact ⟨0, d, by go_num, rfl, hd, by omega, by show d = _; simp, .inl rfl⟩
    case round =>
      obtain ⟨j, y, rfl, rfl, hy, hj, hyd, hj0⟩ := hrel
      by_cases h0 : 0 < y
      · obtain ⟨y2, hy2⟩ : ∃ y2, y2 = y / 2 := ⟨_, rfl⟩
        have hq : (y : Int) / 2 = (y2 : Int) := by omega
        have hyd2 : Hid (y2 = d / 2 ^ (j + 1)) := by
          show y2 = _
          rw [hy2, hyd.out, Nat.div_div_eq_div_mul, Nat.pow_succ]
        have hj2 : Hid (j + 1 = 0 ∨ 0 < d / 2 ^ (j + 1 - 1)) := .inr (by rw [Nat.add_sub_cancel, ← hyd.out]; exact h0)
        have hj3 : j + 1 ≤ 16 := by
          have h1 : 0 < d / 2 ^ j := by rw [← hyd.out]; exact h0
          have h2 : 2 ^ j ≤ d := by
            apply Classical.byContradiction
            intro hlt
            rw [Nat.div_eq_of_lt (by omega)] at h1
            omega
          have h3 := (Nat.pow_lt_pow_iff_right (a := 2) (by omega)).1 (Nat.lt_of_le_of_lt h2 (show d < 2 ^ 16 from hd))
          omega
        have hlt : y2 < y := by omega
        have hw : 16 * (a : Int) + (j : Int) + 1 = 16 * (a : Int) + ((j + 1 : Nat) : Int) := by omega
        clear hy2 hyd hj0
        go_wp2_with fail
        go_round
        case rel => exact ⟨j + 1, y2, by go_num, rfl, by omega, hj3, hyd2, hj2⟩
        case measure => simp [intOf]; omega
      · obtain rfl : y = 0 := by omega
        have hk := Lib.hid (isLen_digits2 hl.out (k := j) (by rw [← hdd'.out]; exact isLen2_of hyd.out.symm hj0.out))
        clear hyd hj0
        go_wp2_with fail
        go_ret
        exact ⟨16 * a + j, by go_num, hk.out, rfl⟩

theorem shr1_dig (Z j : Nat) : (Z / B16 ^ (j + 1) % 2 * 65536 + dig B16 Z j) / 2 = dig B16 (Z / 2) j ∧ (Z / B16 ^ (j + 1) % 2 * 65536 + dig B16 Z j) % 2 = Z / B16 ^ j % 2 := by
  have e1 : Z / B16 ^ (j + 1) = Z / B16 ^ j / 65536 := by rw [Nat.pow_succ, Nat.div_div_eq_div_mul]; rfl
  have e2 : Z / 2 / B16 ^ j = Z / B16 ^ j / 2 := by rw [Nat.div_div_eq_div_mul, Nat.div_div_eq_div_mul, Nat.mul_comm]
  unfold dig
  rw [e1, e2, B16_eq]
  generalize Z / 65536 ^ j = a
  omega
theorem mix_down {B : Nat} (hB : 0 < B) (P Q i j : Nat) : dig B (mix B P Q i) j = if j = i then dig B Q i else dig B (mix B P Q (i + 1)) j := by
  rw [dig_mix hB, dig_mix hB]
  by_cases h : j = i
  · subst h; simp
  · rw [if_neg h]
    by_cases h1 : j < i
    · rw [if_pos h1, if_pos (by omega)]
    · rw [if_neg h1, if_neg (by omega)]
theorem shr_digits (X q s n : Nat) (h : n = 16 * q + s) : X / 2 ^ n = X / B16 ^ q / 2 ^ s := by
  rw [h, B16_pow, Nat.div_div_eq_div_mul, ← Nat.pow_add]

set_option maxHeartbeats 2000000 in
set_option maxRecDepth 100000 in
theorem refShr_calls (v : Value) (X n m : Nat) (w : World) (h : Num .u32 B16 w v X m) (hm : m ≤ 40000) (hn : n ≤ 9223372036854775807) :
    Calls Tryd.prog 33 #[v, .int .i64 n] w fun e w' => ∃ A r c, e = .returned (.slice A r c) ∧ Num .u32 B16 w' (.slice A r c) (X / 2 ^ n) r ∧ IsLen B16 (X / 2 ^ n) r ∧ Below w.heap.size w w' := by
  obtain ⟨A, c, rfl, hmc, hc⟩ := h.form
  have H := Lib.hid h
  clear h
  obtain ⟨q, s, hs, hns⟩ : ∃ q s, s < 16 ∧ n = 16 * q + s := ⟨n / 16, n % 16, Nat.mod_lt _ (by omega), (Nat.div_add_mod n 16).symm⟩
  have hq : (n : Int) / 16 = (q : Int) := by omega
  have hr : (n : Int) % 16 = (s : Int) := by omega
  have hZ := Lib.hid (shr_digits X q s n hns)
  clear hns
  by_cases haq : m ≤ q
  · have hz : X / 2 ^ n = 0 := by
      rw [hZ.out, Nat.div_eq_of_lt (Nat.lt_of_lt_of_le H.out.lt (Nat.pow_le_pow_right B16_pos haq)), Nat.zero_div]
    have hz' := Lib.hid hz
    clear hz hZ
    go_enter Tryd.func33, Tryd.ntmps33
    go_wp2_with fail
    go_ret
    exact ⟨_, _, _, rfl, by rw [hz'.out]; exact Num.nil .., by rw [hz'.out]; exact IsLen.zero _, Below.refl _ _⟩
  · obtain ⟨ad, rfl, _⟩ := H.out.cell (show q < m by omega)
    have hD := H.out.drop B16_pos (show q ≤ m by omega) (c - q) (by omega) (by omega)
    obtain ⟨L, hL⟩ : ∃ L, L = m - q := ⟨_, rfl⟩
    obtain ⟨Y, hY⟩ : ∃ Y, Y = X / B16 ^ q := ⟨_, rfl⟩
    rw [← hY] at hZ hD
    rw [← hL] at hD
    have hYlt := Lib.hid hD.lt
    have hcells : Hid (∀ o j, j < L → (w.alloc o).cell? ((ad.add q).add j) = some (.int .u32 (dig B16 Y (0 + j) : Nat))) := by
      intro o j hj
      obtain ⟨ad', e, hc⟩ := (hD.below ((Below.refl _ w).alloc (Nat.le_refl _) o)).cell hj
      cases e
      rw [hc, Nat.zero_add]
    have hLb : L ≤ 40000 := by omega
    have hL0 : 0 < L := by omega
    have hLi : (m : Int) - (q : Int) = (L : Int) := by omega
    have hLi2 : m - q = L := hL.symm
    clear hD H hY hL
    go_enter Tryd.func33, Tryd.ntmps33
    go_wp2_with (at_builtin; refine wpList_append_OwnDs _ rfl (.tmp 15) (.tmp 19) 31 74 rfl .u32 B16 4 Tryd.underlying31 info16 w.heap.size (.slice (some ⟨w.heap.size, 0, none⟩) 0 0) Y 0 L rfl (OwnD.empty w _ (Nat.le_refl _) Y) (ad.add q) (c - q) rfl (hcells.out _) (by omega) (by omega) (by simp) ?_; intro v' w2 ho hgr; rw [Nat.zero_add] at ho; have ho' := Lib.hid ho; have hgr' := Lib.hid hgr; clear ho hgr)
    have hb1 : Hid (Below w.heap.size w w2) := ((Below.refl _ _).alloc (Nat.le_refl _) _).grown hgr'.out (by simp) (by simp [Value.ownBlock])
    obtain ⟨_, h0⟩ | ⟨g, c2, rfl, hg, hac, hc2, hrow⟩ := ho'.out.row B16_pos
    · omega
    rw [Nat.mod_eq_of_lt hYlt.out] at hrow
    have hrow' := Lib.hid hrow
    clear hrow ho' hgr' hcells
    go_wp2_with fail
    go_loopw [6] (fun v6 wr => ∃ i : Nat, v6 = .int .i64 i ∧ i ≤ s ∧ Hid (Row .u32 B16 74 wr g L (Y / 2 ^ i)) ∧ Hid (Below w.heap.size w wr)) (fun v _ => s - (intOf v).toNat)
    case atStart => exact ⟨0, rfl, Nat.zero_le _, by simpa using hrow', hb1⟩
    case round =>
      clear hrow' hb1
      obtain ⟨i, rfl, hi, hrow, hbel⟩ := hrel
      by_cases hlt : i < s
      · obtain ⟨Z, hZd⟩ : ∃ Z, Z = Y / 2 ^ i := ⟨_, rfl⟩
        rw [← hZd] at hrow
        have hZlt : Hid (Z < B16 ^ L) := by
          show Z < _
          rw [hZd]; exact Nat.lt_of_le_of_lt (Nat.div_le_self _ _) hYlt.out
        have hZn : Hid (Z / 2 = Y / 2 ^ (i + 1)) := by
          show _ = _
          rw [hZd, Nat.div_div_eq_div_mul, Nat.pow_succ]
        clear hZd
        go_wp2_with fail
        obtain ⟨wo, rfl⟩ : ∃ wo : World, wo = wr := ⟨_, rfl⟩
        go_loopw [7, 8] (fun v7 v8 wr => ∃ k l : Nat, v8 = .int .i64 ((k : Int) - 1) ∧ k ≤ L ∧ v7 = .int .u32 l ∧ l < 2 ∧ Hid (l = Z / B16 ^ k % 2) ∧ Hid (Row .u32 B16 74 wr g L (mix B16 Z (Z / 2) k)) ∧ Hid (Below w.heap.size w wr)) (fun _ v _ => (intOf v + 1).toNat)
        case atStart => exact ⟨L, 0, rfl, Nat.le_refl _, rfl, by omega, by show 0 = _; rw [Nat.div_eq_of_lt hZlt.out], by rw [mix_all B16_pos hZlt.out (Nat.lt_of_le_of_lt (Nat.div_le_self _ _) hZlt.out)]; exact hrow, hbel⟩
        case round =>
          clear hrow hbel
          obtain ⟨k, l, rfl, hk, rfl, hl2, hl, hrow, hbel⟩ := hrel
          cases k with
          | succ j =>
            have hd16 := dig16_lt Z j
            have hcell := hrow.out.cell (show j < L by omega)
            rw [dig_mix B16_pos, if_pos (by omega)] at hcell
            have hfz := hrow.out.frozen j
            have hs1 := shr1_dig Z j
            rw [← hl.out] at hs1
            obtain ⟨hs1, hs2⟩ := hs1
            obtain ⟨d, hd⟩ : ∃ d, d = dig B16 Z j := ⟨_, rfl⟩
            rw [← hd] at hcell hd16 hs1 hs2
            obtain ⟨x, hx⟩ : ∃ x, x = l * 65536 + d := ⟨_, rfl⟩
            rw [← hx] at hs1 hs2
            have hw1 : IntKind.u32.wrap ((l : Int) * 65536) = (l : Int) * 65536 := by rw [IntKind.wrap_u32]; omega
            have hw2 : IntKind.u32.wrap ((l : Int) * 65536 + (d : Int)) = (x : Int) := by rw [IntKind.wrap_u32]; omega
            have hw3 : (x : Int) / 2 = ((dig B16 (Z / 2) j : Nat) : Int) := by rw [← hs1]; omega
            obtain ⟨l2, hl3⟩ : ∃ l2, l2 = x % 2 := ⟨_, rfl⟩
            have hw4 : (x : Int) % 2 = (l2 : Int) := by omega
            have hl4 : Hid (l2 = Z / B16 ^ j % 2) := by show l2 = _; rw [hl3, hs2]
            have hl5 : l2 < 2 := by omega
            have hw5 := wrap_u32 (dig B16 (Z / 2) j) (Nat.lt_trans (dig16_lt (Z / 2) j) (by omega))
            clear hx hd hl3 hs1 hs2 hl
            go_wp2_with fail
            go_roundw
            case rel => exact ⟨j, l2, by go_num, by omega, by rw [hw4], hl5, hl4, hrow.out.set j _ (mix B16 Z (Z / 2) j) (mix_lt B16_pos (by omega) (Nat.lt_of_le_of_lt (Nat.div_le_self _ _) hZlt.out)) (fun t => mix_down B16_pos _ _ j t), hbel.out.setCell hg _⟩
            case measure => simp [intOf]; try omega
          | zero =>
            have hrow2 : Hid (Row .u32 B16 74 wr g L (Y / 2 ^ (i + 1))) := by
              have := hrow.out
              rw [mix_zero, hZn.out] at this
              exact this
            clear hrow hl
            go_wp2_with fail
            go_roundw
            case rel => exact ⟨i + 1, by go_num, by omega, hrow2, hbel⟩
            case measure => simp [intOf]; try omega
      · obtain rfl : i = s := by omega
        have hnum := Lib.hid (hrow.out.numc c2 hac hc2)
        rw [← hZ.out] at hnum
        clear hrow hZ
        go_wp2_with fail
        refine (trim_calls _ L _ wr hnum.out).mono ?_
        rintro e w' ⟨C, r, c3, rfl, rfl, hr2, HC, hlc⟩
        go_wp2
        go_ret
        exact ⟨C, r, c3, rfl, HC, hlc, hbel.out⟩
end Go.Proofs.YtmkpeihcchdjcaaDoor
