/- The walks of outriggerref03: bit, Quo. -/
import Derived.Test.YtmobnjlbbhhedaaGreatDoorRefNa
import Derived.Test.YtmobnjlbbhhedaaGreatDoorRefC
set_option linter.unusedVariables false
set_option linter.unusedSimpArgs false
namespace Go.Proofs.YtmobnjlbbhhedaaGreatDoor
open Go.RowKit

theorem bit_dig (X q r : Nat) (hr : r < 16) : dig B16 X q / 2 ^ r % 2 = X / 2 ^ (16 * q + r) % 2 := by
  unfold dig
  have hB : B16 = 2 ^ 16 := rfl
  rw [hB, ← Nat.pow_mul, Nat.pow_add 2 (16 * q) r, ← Nat.div_div_eq_div_mul]
  generalize X / 2 ^ (16 * q) = Z
  have h1 : 2 ^ 16 = 2 ^ r * (2 * 2 ^ (15 - r)) := by
    rw [← Nat.pow_succ', ← Nat.pow_add]
    congr 1; omega
  rw [h1, Nat.mod_mul_right_div_self, Nat.mod_mul_right_mod]

set_option maxRecDepth 100000 in
theorem bit_calls (v : Value) (X n k : Nat) (w : World) (h : Num .u32 B16 w v X n) (hk : k < 16 * n) (hn : n ≤ 40000) :
    Calls Tryz.prog 68 #[v, .int .i64 k] w fun e w' => e = .returned (.int .u32 (X / 2 ^ k % 2 : Nat)) ∧ w = w' := by
  obtain ⟨q, r, hr, hkq⟩ : ∃ q r, r < 16 ∧ k = 16 * q + r := ⟨k / 16, k % 16, Nat.mod_lt _ (by omega), (Nat.div_add_mod k 16).symm⟩
  obtain ⟨A, c, rfl, hnc, hc⟩ := h.form
  obtain ⟨ad, rfl, hcell⟩ := h.cell (show q < n by omega)
  have hqq : q < n := by omega
  have hb := Lib.hid (bit_dig X q r hr)
  rw [← hkq] at hb
  have hd := dig16_lt X q
  obtain ⟨d, hdd⟩ : ∃ d, d = dig B16 X q := ⟨_, rfl⟩
  rw [← hdd] at hcell hd hb
  have e1 : (k : Int) / 16 = (q : Int) := by omega
  have e2 : (k : Int) % 16 = (r : Int) := by omega
  have hk' : k < 640000 := by omega
  clear h hdd hkq
  go_enter Tryz.func68, Tryz.ntmps68
  go_wp2_with fail
  go_loopw [5, 6] (fun v5 v6 wr => ∃ i y : Nat, v6 = .int .i64 i ∧ v5 = .int .u32 y ∧ i ≤ r ∧ y < 65536 ∧ Hid (y = d / 2 ^ i) ∧ wr = w) (fun _ v _ => r - (intOf v).toNat)
  case atStart => exact ⟨0, d, rfl, rfl, Nat.zero_le _, hd, (by show d = d / 2 ^ 0; simp), rfl⟩
  case round =>
    obtain ⟨i, y, rfl, rfl, hi, hy, hyd, rfl⟩ := hrel
    by_cases hlt : i < r
    · obtain ⟨y2, hy2⟩ : ∃ y2, y2 = y / 2 := ⟨_, rfl⟩
      have hq : (y : Int) / 2 = (y2 : Int) := by omega
      have hyd2 : Hid (y2 = d / 2 ^ (i + 1)) := by
        show y2 = _
        rw [hy2, hyd.out, Nat.div_div_eq_div_mul, Nat.pow_succ]
      have hy3 : y2 < 65536 := by omega
      clear hy2 hyd
      go_wp2_with fail
      go_roundw
      case rel => exact ⟨i + 1, y2, by go_num, by go_num, by omega, hy3, hyd2, trivial⟩
      case measure => simp [intOf]; try omega
    · obtain rfl : i = r := by omega
      have hm : (y : Int) % 2 = ((y % 2 : Nat) : Int) := by omega
      obtain ⟨z, hz⟩ : ∃ z, z = y % 2 := ⟨_, rfl⟩
      rw [← hz] at hm
      have hz' : Hid (z = X / 2 ^ k % 2) := by
        show z = _
        rw [hz, hyd.out, hb.out]
      clear hz
      go_wp2_with fail
      go_ret
      exact ⟨by show Ending.returned (.int .u32 ((y : Int) % 2)) = _; rw [hm, hz'.out], rfl⟩

theorem lit16 (w : World) (x : Nat) (hx : x < B16) : Num .u32 B16 (w.alloc (.cells #[.int .u32 x] 80)) (.slice (some ⟨w.heap.size, 0, none⟩) 1 1) x 1 :=
  Num.one hx (by rw [World.cell?_alloc_at _ _ _ _ rfl]; rfl)
theorem div_two (X k : Nat) : X / 2 ^ k = 2 * (X / 2 ^ (k + 1)) + X / 2 ^ k % 2 := by
  rw [Nat.pow_succ, ← Nat.div_div_eq_div_mul]
  omega
/-- One bit more of a quotient. -/
theorem quo_bit (X Y k : Nat) (hY : 0 < Y) :
    (X / 2 ^ (k + 1) % Y + X / 2 ^ (k + 1) % Y + X / 2 ^ k % 2 < Y → X / 2 ^ k / Y = X / 2 ^ (k + 1) / Y + X / 2 ^ (k + 1) / Y ∧ X / 2 ^ k % Y = X / 2 ^ (k + 1) % Y + X / 2 ^ (k + 1) % Y + X / 2 ^ k % 2) ∧
    (Y ≤ X / 2 ^ (k + 1) % Y + X / 2 ^ (k + 1) % Y + X / 2 ^ k % 2 → X / 2 ^ k / Y = X / 2 ^ (k + 1) / Y + X / 2 ^ (k + 1) / Y + 1 ∧ X / 2 ^ k % Y = X / 2 ^ (k + 1) % Y + X / 2 ^ (k + 1) % Y + X / 2 ^ k % 2 - Y) := by
  have h1 := div_two X k
  generalize X / 2 ^ (k + 1) = Z at *
  generalize X / 2 ^ k = W at *
  have h2 := Nat.div_add_mod Z Y
  have h3 := Nat.mod_lt Z hY
  have h4 : W % 2 < 2 := Nat.mod_lt _ (by decide)
  generalize Z / Y = q at *
  generalize Z % Y = r at *
  generalize W % 2 = b at *
  have hW : W = Y * (q + q) + (r + r + b) := by
    rw [Nat.mul_add]
    generalize Y * q = t at *
    omega
  constructor
  · intro hlt
    rw [hW, Nat.mul_add_div hY, Nat.div_eq_of_lt hlt, Nat.mul_add_mod, Nat.mod_eq_of_lt hlt]
    exact ⟨rfl, rfl⟩
  · intro hge
    have hW2 : W = Y * (q + q + 1) + (r + r + b - Y) := by
      rw [Nat.mul_add Y (q + q) 1, Nat.mul_one, hW]
      omega
    have hlt : r + r + b - Y < Y := by omega
    rw [hW2, Nat.mul_add_div hY, Nat.div_eq_of_lt hlt, Nat.mul_add_mod, Nat.mod_eq_of_lt hlt]
    exact ⟨rfl, rfl⟩

set_option maxHeartbeats 1000000 in
set_option maxRecDepth 100000 in
theorem refQuo_calls (v u : Value) (X Y n m : Nat) (w : World) (h : Num .u32 B16 w v X n) (k : Num .u32 B16 w u Y m) (hn : n ≤ 10000) (hm : m ≤ 10000) (hY : 0 < Y) :
    Calls Tryz.prog 39 #[v, u] w fun e w' => ∃ v1 v2 p q, e = .returned (.tuple #[v1, v2]) ∧ Num .u32 B16 w' v1 (X / Y) p ∧ IsLen B16 (X / Y) p ∧ Num .u32 B16 w' v2 (X % Y) q ∧ IsLen B16 (X % Y) q ∧ Below w.heap.size w w' := by
  have H := Lib.hid h
  have K := Lib.hid k
  have hY' := Lib.hid hY
  clear h k hY
  go_enter Tryz.func39, Tryz.ntmps39
  go_wp2_with fail
  refine (refLen_calls _ X n w H.out (by omega)).mono ?_
  rintro e w' ⟨l, rfl, hl, rfl⟩
  have hl' := Lib.hid hl
  have hln : l ≤ 16 * n := hl.le (by
    have hB : B16 ^ n = 2 ^ (16 * n) := by
      have : B16 = 2 ^ 16 := rfl
      rw [this, ← Nat.pow_mul]
    rw [← hB]; exact H.out.lt)
  clear hl
  have hX0 : Hid (X / 2 ^ l = 0) := Nat.div_eq_of_lt hl'.out.1
  have limQ : Hid (∀ Z a, Z ≤ X → IsLen B16 Z a → a ≤ n) := fun Z a h1 h2 => h2.le (Nat.lt_of_le_of_lt h1 H.out.lt)
  have limR : Hid (∀ Z a, Z < Y + Y → IsLen B16 Z a → a ≤ m + 1) := fun Z a h1 h2 => h2.le (Nat.lt_trans h1 (by
    have h3 := K.out.lt
    have h4 : B16 ^ m * 2 ≤ B16 ^ m * B16 := Nat.mul_le_mul_left _ (by decide)
    rw [Nat.pow_succ]
    omega))
  have hl40 : l ≤ 160000 := by omega
  clear hl'
  go_wp2_with fail
  go_loopw [6, 7, 8] (fun v6 v7 v8 wr => ∃ k p q : Nat, v8 = .int .i64 ((k : Int) - 1) ∧ k ≤ l ∧ Hid (Num .u32 B16 wr v6 (X / 2 ^ k / Y) p) ∧ Hid (IsLen B16 (X / 2 ^ k / Y) p) ∧ p ≤ n ∧ Hid (Num .u32 B16 wr v7 (X / 2 ^ k % Y) q) ∧ Hid (IsLen B16 (X / 2 ^ k % Y) q) ∧ q ≤ m + 1 ∧ Hid (Below w.heap.size w wr)) (fun _ _ v _ => (intOf v + 1).toNat)
  case atStart =>
    refine ⟨l, 0, 0, rfl, Nat.le_refl _, ?_, ?_, Nat.zero_le _, ?_, ?_, Nat.zero_le _, Below.refl _ _⟩
    · rw [hX0.out, Nat.zero_div]; exact Num.nil ..
    · rw [hX0.out, Nat.zero_div]; exact IsLen.zero _
    · rw [hX0.out, Nat.zero_mod]; exact Num.nil ..
    · rw [hX0.out, Nat.zero_mod]; exact IsLen.zero _
  case round =>
    clear hX0
    obtain ⟨k, p, q, rfl, hk, hQ, lQ, hp, hR, lR, hq, hbel⟩ := hrel
    cases k with
    | succ j =>
      obtain ⟨s1, s2⟩ := quo_bit X Y j hY'.out
      have hj16 : j < 16 * n := by omega
      obtain ⟨bt, hbt⟩ : ∃ bt, bt = X / 2 ^ j % 2 := ⟨_, rfl⟩
      have hb2 : bt < 2 := by rw [hbt]; exact Nat.mod_lt _ (by decide)
      obtain ⟨Q, hQe⟩ : ∃ Q, Q = X / 2 ^ (j + 1) / Y := ⟨_, rfl⟩
      obtain ⟨R, hRe⟩ : ∃ R, R = X / 2 ^ (j + 1) % Y := ⟨_, rfl⟩
      have hRY : R < Y := by rw [hRe]; exact Nat.mod_lt _ hY'.out
      obtain ⟨Q', hQ'⟩ : ∃ Q', Q' = X / 2 ^ j / Y := ⟨_, rfl⟩
      obtain ⟨R', hR'⟩ : ∃ R', R' = X / 2 ^ j % Y := ⟨_, rfl⟩
      have hQX : Q' ≤ X := by rw [hQ']; exact Nat.le_trans (Nat.div_le_self _ _) (Nat.div_le_self _ _)
      rw [← hbt, ← hQe, ← hRe, ← hQ', ← hR'] at s1 s2
      rw [← hQe] at hQ lQ
      rw [← hRe] at hR lR
      have bc := Lib.hid (fun wr h => bit_calls v X n j wr h hj16 (by omega))
      rw [← hbt] at bc
      have S1 := Lib.hid s1
      have S2 := Lib.hid s2
      have hRY' := Lib.hid hRY
      have hQX' := Lib.hid hQX
      have hQ'' := Lib.hid hQ'
      have hR'' := Lib.hid hR'
      have hb2' : Hid (bt < B16) := by show bt < B16; rw [show B16 = 65536 from rfl]; omega
      have hb3 := Lib.hid hb2
      have hRl : Hid (R + R + bt < Y + Y) := by show _ < _; omega
      have hQl : Hid (Q + Q ≤ X) := by
        show _ ≤ _
        rcases Nat.lt_or_ge (R + R + bt) Y with hh | hh
        · have := s1 hh; omega
        · have := s2 hh; omega
      clear s1 s2 hbt hQe hRe hQ' hR' hRY hQX hb2
      rw [show ((j + 1 : Nat) : Int) - 1 = (j : Int) by omega]
      go_wp2_with fail
      refine (refAdd_calls _ _ R R q q wr hR.out hR.out (by omega) (by omega)).mono ?_
      rintro e w1 ⟨A1, r1, c1, rfl, h1, l1, hb⟩
      have H1 := Lib.hid h1
      have hr1 : r1 ≤ m + 1 := limR.out _ _ (by have := hRl.out; omega) l1
      have B1 : Hid (Below w.heap.size w w1) := hbel.out.trans (hb.mono hbel.out.size)
      replace hQ := Lib.hid (hQ.out.below hb)
      clear h1 l1 hb hR lR hbel
      go_wp2_with fail
      refine (bc.out _ (H.out.below B1.out)).mono ?_
      rintro e w' ⟨rfl, rfl⟩
      go_wp2_with fail
      have Ba : Hid (Below w1.heap.size w1 (w1.alloc (.cells #[.int .u32 bt] 80))) := (Below.refl _ _).alloc (Nat.le_refl _) _
      refine (refAdd_calls _ _ (R + R) bt r1 1 _ (H1.out.below Ba.out) (lit16 w1 bt hb2'.out) (by omega) (by omega)).mono ?_
      rintro e w2 ⟨A2, r2, c2, rfl, h2, l2, hb'⟩
      have hb : Below w1.heap.size w1 w2 := Ba.out.trans (hb'.mono (by simp))
      have H2 := Lib.hid h2
      have L2 := Lib.hid l2
      have hr2 : r2 ≤ m + 1 := limR.out _ _ hRl.out l2
      have B2 : Hid (Below w.heap.size w w2) := B1.out.trans (hb.mono B1.out.size)
      replace hQ := Lib.hid (hQ.out.below hb)
      clear h2 l2 hb hb' H1 B1 Ba
      go_wp2_with fail
      refine (refAdd_calls _ _ Q Q p p w2 hQ.out hQ.out (by omega) (by omega)).mono ?_
      rintro e w3 ⟨A3, r3, c3, rfl, h3, l3, hb⟩
      have H3 := Lib.hid h3
      have L3 := Lib.hid l3
      have hr3 : r3 ≤ n := limQ.out _ _ hQl.out l3
      have B3 : Hid (Below w.heap.size w w3) := B2.out.trans (hb.mono B2.out.size)
      replace H2 := Lib.hid (H2.out.below hb)
      clear h3 l3 hb hQ lQ B2
      go_wp2_with fail
      refine (refCmp_calls _ _ (R + R + bt) Y r2 m w3 H2.out (K.out.below B3.out)).mono ?_
      rintro e w' ⟨rfl, nd, rfl⟩
      rcases Nat.lt_or_ge (R + R + bt) Y with hlt | hge
      · rw [cmpN_lt hlt]
        have s := S1.out hlt
        have f1 : Hid (Num .u32 B16 (w3.drewN nd) (.slice A3 r3 c3) (X / 2 ^ j / Y) r3) := by show Num _ _ _ _ _ _; rw [← hQ''.out, s.1]; exact H3.out.drewN nd
        have f2 : Hid (IsLen B16 (X / 2 ^ j / Y) r3) := by show IsLen _ _ _; rw [← hQ''.out, s.1]; exact L3.out
        have f3 : Hid (Num .u32 B16 (w3.drewN nd) (.slice A2 r2 c2) (X / 2 ^ j % Y) r2) := by show Num _ _ _ _ _ _; rw [← hR''.out, s.2]; exact H2.out.drewN nd
        have f4 : Hid (IsLen B16 (X / 2 ^ j % Y) r2) := by show IsLen _ _ _; rw [← hR''.out, s.2]; exact L2.out
        clear s hlt
        go_wp2_with fail
        go_roundw
        case rel => exact ⟨j, r3, r2, by go_num, by omega, f1, f2, hr3, f3, f4, hr2, below_drewN B3.out nd⟩
        case measure => simp [intOf]; try omega
      · obtain ⟨cc, hcc, hc0⟩ : ∃ cc, cmpN (R + R + bt) Y = cc ∧ 0 ≤ cc := ⟨_, rfl, (cmpN_nonneg _ _).2 hge⟩
        rw [hcc]
        have s := S2.out hge
        have hge' := Lib.hid hge
        have s' := Lib.hid s
        clear hcc hge s
        go_wp2_with fail
        refine (refSub_calls _ _ (R + R + bt) Y r2 m _ (H2.out.drewN nd) ((K.out.below B3.out).drewN nd) (by omega) hge'.out).mono ?_
        rintro e w4 ⟨A4, r4, c4, rfl, h4, l4, hb'⟩
        have hb : Below w3.heap.size w3 w4 := (below_drewN (Below.refl _ w3) nd).trans (show Below w3.heap.size (w3.drewN nd) w4 from hb')
        rw [← s'.out.2, hR''.out] at h4 l4
        have H4 := Lib.hid h4
        have L4 := Lib.hid l4
        have hr4 : r4 ≤ m + 1 := limR.out _ _ (by have := Nat.mod_lt (X / 2 ^ j) hY'.out; omega) l4
        have B4 : Hid (Below w.heap.size w w4) := B3.out.trans (hb.mono B3.out.size)
        replace H3 := Lib.hid (H3.out.below hb)
        clear h4 l4 hb hb' H2 L2 B3
        go_wp2_with fail
        have Ba : Hid (Below w4.heap.size w4 (w4.alloc (.cells #[.int .u32 1] 80))) := (Below.refl _ _).alloc (Nat.le_refl _) _
        refine (refAdd_calls _ _ (Q + Q) 1 r3 1 _ (H3.out.below Ba.out) (lit16 w4 1 (by decide)) (by omega) (by omega)).mono ?_
        rintro e w5 ⟨A5, r5, c5, rfl, h5, l5, hb'⟩
        have hb : Below w4.heap.size w4 w5 := Ba.out.trans (hb'.mono (by simp))
        have hr5 : r5 ≤ n := limQ.out _ _ (by have := s'.out.1; have := hQX'.out; omega) l5
        rw [← s'.out.1, hQ''.out] at h5 l5
        have H5 := Lib.hid h5
        have L5 := Lib.hid l5
        have B5 : Hid (Below w.heap.size w w5) := B4.out.trans (hb.mono B4.out.size)
        replace H4 := Lib.hid (H4.out.below hb)
        clear h5 l5 hb hb' H3 L3 B4 Ba
        go_wp2_with fail
        go_roundw
        case rel => exact ⟨j, r5, r4, by go_num, by omega, H5, L5, hr5, H4, L4, hr4, B5⟩
        case measure => simp [intOf]; try omega
    | zero =>
      go_wp2_with fail
      go_ret2
      have e : X / 2 ^ 0 = X := by simp
      have f1 := hQ.out
      have f2 := lQ.out
      have f3 := hR.out
      have f4 := lR.out
      rw [e] at f1 f2 f3 f4
      exact ⟨_, _, p, q, rfl, f1, f2, f3, f4, hbel.out⟩
end Go.Proofs.YtmobnjlbbhhedaaGreatDoor
