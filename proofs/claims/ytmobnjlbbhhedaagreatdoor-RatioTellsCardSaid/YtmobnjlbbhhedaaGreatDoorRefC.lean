/- The walks of the reference's Add and Sub. -/
import Derived.Test.YtmobnjlbbhhedaaGreatDoorRefB
set_option linter.unusedVariables false
set_option linter.unusedSimpArgs false
namespace Go.Proofs.YtmobnjlbbhhedaaGreatDoor
open Go.RowKit

theorem cry_end {B X Y n m i : Nat} (hx : X < B ^ n) (hy : Y < B ^ m) (hB : 0 < B) (h1 : n ≤ i) (h2 : m ≤ i) : cry B X Y i = (X + Y) / B ^ i := by
  unfold cry
  rw [Nat.mod_eq_of_lt (Nat.lt_of_lt_of_le hx (Nat.pow_le_pow_right hB h1)), Nat.mod_eq_of_lt (Nat.lt_of_lt_of_le hy (Nat.pow_le_pow_right hB h2))]

set_option maxHeartbeats 1000000 in
set_option maxRecDepth 100000 in
theorem refAdd_calls (v u : Value) (X Y n m : Nat) (w : World) (h : Num .u32 B16 w v X n) (k : Num .u32 B16 w u Y m) (hn : n ≤ 40000) (hm : m ≤ 40000) :
    Calls Tryz.prog 45 #[v, u] w fun e w' => ∃ A r c, e = .returned (.slice A r c) ∧ Num .u32 B16 w' (.slice A r c) (X + Y) r ∧ IsLen B16 (X + Y) r ∧ Below w.heap.size w w' := by
  obtain ⟨A, ca, rfl, hnc, hca⟩ := h.form
  obtain ⟨B, cb, rfl, hmc, hcb⟩ := k.form
  have H := Lib.hid h
  have K := Lib.hid k
  clear h k
  go_enter Tryz.func45, Tryz.ntmps45
  go_wp2_with fail
  go_loopw [5, 6, 7] (fun v5 v6 v7 wr => ∃ i : Nat, v7 = .int .i64 i ∧ i ≤ max n m + 1 ∧ v6 = .int .u32 (cry B16 X Y i : Nat) ∧ Hid (OwnD .u32 B16 80 wr w.heap.size v5 (X + Y) i) ∧ Hid (Below w.heap.size w wr)) (fun _ _ v _ => max n m + 1 - (intOf v).toNat)
  case atStart => exact ⟨0, rfl, Nat.zero_le _, by rw [cry_zero]; rfl, OwnD.nil _, Below.refl _ _⟩
  case round =>
    obtain ⟨i, rfl, hi, rfl, hown, hbel⟩ := hrel
    by_cases hgo : i < n ∨ (¬ i < n ∧ i < m) ∨ (¬ i < n ∧ ¬ i < m ∧ 0 < cry B16 X Y i)
    · have hlt : i < max n m + 1 := by
        rcases hgo with h | h | ⟨h1, h2, h3⟩
        · omega
        · omega
        · apply Classical.byContradiction
          intro hge
          rw [cry_end H.out.lt K.out.lt B16_pos (by omega) (by omega), Nat.div_eq_of_lt (Nat.lt_of_lt_of_le (add_lt_pow (by decide) H.out.lt K.out.lt) (Nat.pow_le_pow_right B16_pos (by omega)))] at h3
          omega
      have hdx := dig16_lt X i
      have hdy := dig16_lt Y i
      have hcy := cry_le B16_pos X Y i
      have hcy1 := cry_le B16_pos X Y (i + 1)
      have hdz := dig16_lt (X + Y) i
      obtain ⟨s1, hs1⟩ : ∃ s1, s1 = dig B16 X i + dig B16 Y i := ⟨_, rfl⟩
      obtain ⟨s2, hs2⟩ : ∃ s2, s2 = s1 + cry B16 X Y i := ⟨_, rfl⟩
      have hrem0 := sum_dig B16_pos X Y i
      have hquo0 := sum_cry B16_pos X Y i
      rw [← hs1, ← hs2, B16_eq] at hrem0 hquo0
      have hw1 : IntKind.u32.wrap ((dig B16 X i : Nat) + (dig B16 Y i : Nat) : Int) = (s1 : Nat) := by rw [IntKind.wrap_u32]; omega
      have hw2 : IntKind.u32.wrap ((s1 : Nat) + (cry B16 X Y i : Nat) : Int) = (s2 : Nat) := by rw [IntKind.wrap_u32]; omega
      have hrem : ((s2 : Nat) : Int) % 65536 = (dig B16 (X + Y) i : Nat) := by rw [B16_eq]; omega
      have hquo : ((s2 : Nat) : Int) / 65536 = (cry B16 X Y (i + 1) : Nat) := by rw [B16_eq]; omega
      have hwr1 := wrap_u32 (dig B16 (X + Y) i) (by omega)
      have hwr2 := wrap_u32 (cry B16 X Y (i + 1)) (by omega)
      clear hs1 hs2 hrem0 hquo0 hdx hdy hcy hcy1
      rcases hgo with h1 | ⟨h1, h2⟩ | ⟨h1, h2, h3⟩
      all_goals
        go_wp2_with fail
        refine (digit_calls _ n X i _ _ (H.out.below hbel.out) (by omega) rfl).mono ?_
        rintro e w' ⟨rfl, rfl⟩
        go_wp2_with fail
        refine (digit_calls _ m Y i _ _ (K.out.below hbel.out) (by omega) rfl).mono ?_
        rintro e w' ⟨rfl, rfl⟩
        go_wp2_with (at_builtin; refine wpList_append_OwnD _ rfl (.tmp 34) (.tmp 37) 34 80 rfl .u32 B16 4 Tryz.underlying34 info16 w.heap.size u5 (X + Y) i rfl (OwnD.alloc hown.out _) ⟨wr.heap.size, 0, none⟩ 1 rfl ?h2 (by omega) (by omega) ?h3 ?_; (case h2 => go_simp); (case h3 => have := hbel.out.size; simp; omega); intro v2 w2 ho hg; have ho' := Lib.hid ho; have hg' := Lib.hid hg; clear ho hg)
        go_roundw
        case rel => exact ⟨i + 1, by go_num, by omega, rfl, ho', (hbel.out.alloc hbel.out.size _).grown hg'.out (by have := hbel.out.size; simp; omega) hown.out.base⟩
        case measure => simp [intOf]; omega
    · have h1 : ¬ i < n := fun h => hgo (.inl h)
      have h2 : ¬ i < m := fun h => hgo (.inr (.inl ⟨h1, h⟩))
      have h3 : ¬ 0 < cry B16 X Y i := fun h => hgo (.inr (.inr ⟨h1, h2, h⟩))
      have hz : X + Y < B16 ^ i := by
        have e := cry_end H.out.lt K.out.lt B16_pos (show n ≤ i by omega) (show m ≤ i by omega)
        have h0 : (X + Y) / B16 ^ i = 0 := by omega
        rcases Nat.div_eq_zero_iff.1 h0 with h | h
        · have := Nat.pow_pos (n := i) B16_pos; omega
        · exact h
      have hnum := Lib.hid (hown.out.num' B16_pos hz)
      clear hz hown hgo
      go_wp2_with fail
      refine (trim_calls _ i (X + Y) wr hnum.out).mono ?_
      rintro e w' ⟨C, r, c2, rfl, rfl, hr, HC, hlc⟩
      go_wp2
      go_ret
      exact ⟨C, r, c2, rfl, HC, hlc, hbel.out⟩

set_option maxHeartbeats 1000000 in
set_option maxRecDepth 100000 in
theorem refSub_calls (v u : Value) (X Y n m : Nat) (w : World) (h : Num .u32 B16 w v X n) (k : Num .u32 B16 w u Y m) (hn : n ≤ 40000) (hle : Y ≤ X) :
    Calls Tryz.prog 70 #[v, u] w fun e w' => ∃ A r c, e = .returned (.slice A r c) ∧ Num .u32 B16 w' (.slice A r c) (X - Y) r ∧ IsLen B16 (X - Y) r ∧ Below w.heap.size w w' := by
  obtain ⟨A, ca, rfl, hnc, hca⟩ := h.form
  obtain ⟨B, cb, rfl, hmc, hcb⟩ := k.form
  have H := Lib.hid h
  have K := Lib.hid k
  have hle' := Lib.hid hle
  clear h k hle
  go_enter Tryz.func70, Tryz.ntmps70
  go_wp2_with fail
  go_loopw [5, 6, 7] (fun v5 v6 v7 wr => ∃ i : Nat, v7 = .int .i64 i ∧ i ≤ n ∧ v6 = .int .u32 (lent B16 X Y i : Nat) ∧ Hid (OwnD .u32 B16 80 wr w.heap.size v5 (X - Y) i) ∧ Hid (Below w.heap.size w wr)) (fun _ _ v _ => n - (intOf v).toNat)
  case atStart => exact ⟨0, rfl, Nat.zero_le _, by rw [lent_zero]; rfl, OwnD.nil _, Below.refl _ _⟩
  case round =>
    obtain ⟨i, rfl, hi, rfl, hown, hbel⟩ := hrel
    by_cases hlt : i < n
    · have hdx := dig16_lt X i
      have hdy := dig16_lt Y i
      have hcy := lent_le B16 X Y i
      have hcy1 := lent_le B16 X Y (i + 1)
      have hdz := dig16_lt (X - Y) i
      have hall : dig B16 (X - Y) i + dig B16 Y i + lent B16 X Y i = dig B16 X i + lent B16 X Y (i + 1) * 65536 := sub_all B16_pos hle'.out i
      obtain ⟨s0, hs0⟩ : ∃ s0, s0 = 65536 + dig B16 X i := ⟨_, rfl⟩
      obtain ⟨s1, hs1⟩ : ∃ s1, s1 = 65536 + dig B16 X i - dig B16 Y i := ⟨_, rfl⟩
      obtain ⟨s2, hs2⟩ : ∃ s2, s2 = 65536 + dig B16 X i - dig B16 Y i - lent B16 X Y i := ⟨_, rfl⟩
      have hw0 : IntKind.u32.wrap (65536 + (dig B16 X i : Nat) : Int) = (s0 : Nat) := by rw [IntKind.wrap_u32]; omega
      have hw1 : IntKind.u32.wrap ((s0 : Nat) - (dig B16 Y i : Nat) : Int) = (s1 : Nat) := by rw [IntKind.wrap_u32]; omega
      have hw2 : IntKind.u32.wrap ((s1 : Nat) - (lent B16 X Y i : Nat) : Int) = (s2 : Nat) := by rw [IntKind.wrap_u32]; omega
      have hrem : ((s2 : Nat) : Int) % 65536 = (dig B16 (X - Y) i : Nat) := by omega
      obtain ⟨q, hq⟩ : ∃ q, q = s2 / 65536 := ⟨_, rfl⟩
      have hquo : ((s2 : Nat) : Int) / 65536 = (q : Nat) := by omega
      have hw3 : IntKind.u32.wrap (1 - (q : Nat) : Int) = (lent B16 X Y (i + 1) : Nat) := by rw [IntKind.wrap_u32]; omega
      have hwr1 := wrap_u32 (dig B16 (X - Y) i) (by omega)
      have hwr2 := wrap_u32 q (by omega)
      clear hs0 hs1 hs2 hq hdx hdy hcy hcy1 hall
      obtain ⟨ad, rfl, hcell⟩ := (H.out.below hbel.out).cell hlt
      go_wp2_with fail
      go_quiet ((go_at_call 62; exact quiet_eq (digit_calls _ m Y i _ _ ((K.out.below hbel.out).drewN _) (by omega) rfl)))
      go_wp2_with (at_builtin; refine wpList_append_OwnD _ rfl (.tmp 26) (.tmp 29) 34 80 rfl .u32 B16 4 Tryz.underlying34 info16 w.heap.size u5 (X - Y) i rfl (OwnD.alloc (hown.out.drewN nq) _) ⟨wr.heap.size, 0, none⟩ 1 rfl ?h2 (by omega) (by omega) ?h3 ?_; (case h2 => exact cell_newN _ _ _ _); (case h3 => exact Nat.le_trans hbel.out.size (by simp [World.drewN])); intro v2 w2 ho hg; have ho' := Lib.hid ho; have hg' := Lib.hid hg; clear ho hg)
      go_roundw
      case rel => exact ⟨i + 1, by go_num, by omega, rfl, ho', ((below_drewN hbel.out nq).alloc hbel.out.size _).grown hg'.out (by have := hbel.out.size; simp; omega) hown.out.base⟩
      case measure => simp [intOf]; omega
    · obtain rfl : i = n := by omega
      have hnum := Lib.hid (hown.out.num' B16_pos (Nat.lt_of_le_of_lt (Nat.sub_le X Y) H.out.lt))
      clear hown
      go_wp2_with fail
      refine (trim_calls _ i (X - Y) wr hnum.out).mono ?_
      rintro e w' ⟨C, r, c2, rfl, rfl, hr, HC, hlc⟩
      go_wp2
      go_ret
      exact ⟨C, r, c2, rfl, HC, hlc, hbel.out⟩
end Go.Proofs.YtmobnjlbbhhedaaGreatDoor
