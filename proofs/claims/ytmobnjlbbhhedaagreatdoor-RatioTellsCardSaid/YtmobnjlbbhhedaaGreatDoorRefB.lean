/- The walks of the reference's Digits and Limbs. -/
import Derived.Test.YtmobnjlbbhhedaaGreatDoorRefA
set_option linter.unusedVariables false
set_option linter.unusedSimpArgs false
namespace Go.Proofs.YtmobnjlbbhhedaaGreatDoor
open Go.RowKit

set_option maxHeartbeats 1000000 in
set_option maxRecDepth 100000 in
theorem digits_calls (v : Value) (X n : Nat) (w : World) (h : Num .u64 B64 w v X n) (hn : n ≤ 10000) :
    Calls Tryz.prog 30 #[v] w fun e w' => ∃ A m c, e = .returned (.slice A m c) ∧ Num .u32 B16 w' (.slice A m c) X m ∧ IsLen B16 X m ∧ m ≤ 4 * n ∧ Below w.heap.size w w' := by
  obtain ⟨A, c, rfl, hnc, hc⟩ := h.form
  have H := Lib.hid h
  clear h
  go_enter Tryz.func30, Tryz.ntmps30
  go_wp2_with fail
  go_loopw [3, 4] (fun v3 v4 wr => ∃ i : Nat, v4 = .int .i64 i ∧ i ≤ n ∧ Hid (OwnD .u32 B16 80 wr w.heap.size v3 X (4 * i)) ∧ Hid (Below w.heap.size w wr)) (fun _ v _ => n - (intOf v).toNat)
  case atStart => exact ⟨0, rfl, Nat.zero_le _, OwnD.nil X, Below.refl _ _⟩
  case round =>
    obtain ⟨i, rfl, hi, hown, hbel⟩ := hrel
    by_cases hlt : i < n
    · obtain ⟨ad, rfl, hcell⟩ := (H.out.below hbel.out).cell hlt
      rw [← dq_zero] at hcell
      go_wp2_with fail
      obtain ⟨wo, rfl⟩ : ∃ wo : World, wo = wr := ⟨_, rfl⟩
      go_loopw [3, 5, 6] (fun v3 v5 v6 wr => ∃ k : Nat, v6 = .int .i64 k ∧ k ≤ 4 ∧ v5 = .int .u64 (dq X i k : Nat) ∧ Hid (OwnD .u32 B16 80 wr w.heap.size v3 X (4 * i + k)) ∧ Hid (Below w.heap.size w wr)) (fun _ _ v _ => 4 - (intOf v).toNat)
      case atStart => exact ⟨0, rfl, Nat.zero_le _, rfl, hown, hbel⟩
      case round =>
        clear hown hbel hcell
        obtain ⟨k, rfl, hk, rfl, hown, hbel⟩ := hrel
        by_cases hk4 : k < 4
        · have hd16 := dig16_lt X (4 * i + k)
          have hrem : ((dq X i k : Nat) : Int) % 65536 = ((dig B16 X (4 * i + k) : Nat) : Int) := by rw [← dq_dig X i k hk4]; omega
          have hquo : ((dq X i k : Nat) : Int) / 65536 = ((dq X i (k + 1) : Nat) : Int) := by rw [← dq_next X i k]; omega
          go_wp2_with (at_builtin; refine wpList_append_OwnD _ rfl (.tmp 21) (.tmp 25) 34 80 rfl .u32 B16 4 Tryz.underlying34 info16 w.heap.size u3 X (4 * i + k) rfl (OwnD.alloc hown.out _) ⟨wr.heap.size, 0, none⟩ 1 rfl ?h2 (by omega) (by omega) ?h3 ?_; (case h2 => go_simp); (case h3 => have := hbel.out.size; simp; omega); intro v2 w2 ho hg; have ho' := Lib.hid ho; have hg' := Lib.hid hg; clear ho hg)
          go_roundw
          case rel => exact ⟨k + 1, by go_num, by omega, by rw [wrap_u64 _ (dq_lt X i (k + 1))], ho', (hbel.out.alloc hbel.out.size _).grown hg'.out (by have := hbel.out.size; simp; omega) hown.out.base⟩
          case measure => simp [intOf]; omega
        · obtain rfl : k = 4 := by omega
          go_wp2_with fail
          go_roundw
          case rel => exact ⟨i + 1, by go_num, by omega, hown, hbel⟩
          case measure => simp [intOf]; omega
    · obtain rfl : i = n := by omega
      have hx := H.out.lt
      rw [B64_pow] at hx
      have hnum := Lib.hid (hown.out.num' B16_pos hx)
      have hx' := Lib.hid H.out.lt
      clear hx hown
      go_wp2_with fail
      refine (trim_calls _ (4 * i) X wr hnum.out).mono ?_
      rintro e w' ⟨C, r, c2, rfl, rfl, hr, HC, hlc⟩
      go_wp2
      go_ret
      exact ⟨C, r, c2, rfl, HC, hlc, hr, hbel.out⟩

set_option maxHeartbeats 1000000 in
set_option maxRecDepth 100000 in
theorem limbs_calls (v : Value) (D n0 : Nat) (w : World) (h : Num .u32 B16 w v D n0) (hn : ∀ n, IsLen B16 D n → n ≤ 40000) :
    Calls Tryz.prog 35 #[v] w fun e w' => ∃ v' t, e = .returned v' ∧ Num .u64 B64 w' v' D t ∧ IsLen B64 D t ∧ Below w.heap.size w w' := by
  have H0 := Lib.hid h
  clear h
  go_enter Tryz.func35, Tryz.ntmps35
  go_wp2_with fail
  refine (trim_calls v n0 D w H0.out).mono ?_
  rintro e w' ⟨A, n, c, rfl, rfl, _, HA, hla⟩
  have hn40 := hn n hla
  obtain ⟨_, _, _, hnc, hcm⟩ := HA.form
  have H := Lib.hid HA
  have hl := Lib.hid hla
  clear HA hla hn H0
  go_wp2_with fail
  go_loopw [3, 4] (fun v3 v4 wr => ∃ t : Nat, v4 = .int .i64 (4 * (t : Int)) ∧ 4 * t < n + 4 ∧ Hid (OwnD .u64 B64 79 wr w.heap.size v3 D t) ∧ Hid (Below w.heap.size w wr)) (fun _ v _ => n + 4 - (intOf v).toNat)
  case atStart => exact ⟨0, rfl, by omega, OwnD.nil D, Below.refl _ _⟩
  case round =>
    obtain ⟨t, rfl, ht, hown, hbel⟩ := hrel
    by_cases hlt : 4 * t < n
    · go_wp2_with fail
      go_loop [5, 6] (fun v5 v6 => ∃ j : Nat, v6 = .int .i64 ((j : Int) - 1) ∧ j ≤ 4 ∧ v5 = .int .u64 (lx D (4 * t) j : Nat)) (fun _ v => (intOf v + 1).toNat)
      case atStart => exact ⟨4, rfl, by omega, by rw [lx_four]; rfl⟩
      case round =>
        obtain ⟨j, rfl, hj, rfl⟩ := hrel
        cases j with
        | succ k =>
          have hlx := lx_next D (4 * t) k (by omega)
          have hb1 := lx_lt D (4 * t) k (by omega)
          have hb2 : lx D (4 * t) k < B64 := by
            rw [B64_four]
            exact Nat.lt_of_lt_of_le hb1 (Nat.pow_le_pow_right B16_pos (by omega))
          rw [B64_eq] at hb2
          have hw1 : IntKind.u64.wrap (((lx D (4 * t) (k + 1) : Nat) : Int) * 65536) = ((lx D (4 * t) (k + 1) * 65536 : Nat) : Int) := by
            rw [IntKind.wrap_u64]; omega
          obtain ⟨p, hp⟩ : ∃ p, p = lx D (4 * t) (k + 1) * 65536 := ⟨_, rfl⟩
          rw [← hp] at hw1 hlx
          by_cases hin : 4 * t + k < n
          · obtain ⟨ad, rfl, hcell⟩ := (H.out.below hbel.out).cell hin
            have hd16 := dig16_lt D (4 * t + k)
            have hw0 : IntKind.u64.wrap ((dig B16 D (4 * t + k) : Nat) : Int) = (dig B16 D (4 * t + k) : Nat) := by rw [IntKind.wrap_u64]; omega
            have hw2 : IntKind.u64.wrap ((p : Int) + (dig B16 D (4 * t + k) : Nat)) = ((lx D (4 * t) k : Nat) : Int) := by
              rw [IntKind.wrap_u64]; omega
            clear hlx hb1 hb2 hp
            go_wp2_with fail
            go_round
            case rel => exact ⟨k, by go_num, by omega, rfl⟩
            case measure => simp [intOf]; try omega
          · have hz : dig B16 D (4 * t + k) = 0 := dig_ge B16_pos hl.out.1 (by omega)
            rw [hz, Nat.add_zero] at hlx
            rw [← hlx] at hw1
            clear hlx hb1 hb2 hp hz
            go_wp2_with fail
            go_round
            case rel => exact ⟨k, by go_num, by omega, rfl⟩
            case measure => simp [intOf]; try omega
        | zero =>
          have hz : Hid (lx D (4 * t) 0 = dig B64 D t) := lx_zero D t
          go_wp2_with (at_builtin; refine wpList_append_OwnD _ rfl (.tmp 36) (.tmp 38) 22 79 rfl .u64 B64 8 Tryz.underlying22 info64r w.heap.size u3 D t rfl (OwnD.alloc hown.out _) ⟨wr.heap.size, 0, none⟩ 1 rfl ?h2 (by omega) (by omega) ?h3 ?_; (case h2 => rw [← hz.out]; go_simp); (case h3 => have := hbel.out.size; simp; omega); intro v2 w2 ho hg; have ho' := Lib.hid ho; have hg' := Lib.hid hg; clear ho hg)
          go_roundw
          case rel => exact ⟨t + 1, by go_num, by omega, ho', (hbel.out.alloc hbel.out.size _).grown hg'.out (by have := hbel.out.size; simp; omega) hown.out.base⟩
          case measure => simp [intOf]; try omega
    · have hlen := Lib.hid (isLen_limbs_digits hl.out (show n ≤ 4 * t by omega) ht)
      have hnum := Lib.hid (hown.out.num' B64_pos hlen.out.1)
      clear hown
      go_wp2_with fail
      go_ret
      exact ⟨_, t, rfl, hnum.out, hlen.out, hbel.out⟩
end Go.Proofs.YtmobnjlbbhhedaaGreatDoor
