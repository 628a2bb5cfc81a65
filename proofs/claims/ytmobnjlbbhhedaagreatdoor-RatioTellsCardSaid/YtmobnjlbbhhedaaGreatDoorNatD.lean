/- The walks of slices.Clone, nat.Shl, nat.Shr, nat.Len. -/
import Derived.Test.YtmobnjlbbhhedaaGreatDoorNatB
import Derived.Test.YtmobnjlbbhhedaaGreatDoorNumB
import Derived.WalkSpells
set_option linter.unusedVariables false
set_option linter.unusedSimpArgs false
namespace Go.Proofs.YtmobnjlbbhhedaaGreatDoor
open Go.RowKit
attribute [local go_sem high] run_max_nat run_min_nat

set_option maxHeartbeats 1000000 in
theorem clone_calls (v : Value) (X n : Nat) (w : World) (h : Num .u64 B64 w v X n) (hn : n ≤ 20000) :
    Calls Tryz.prog 52 #[v] w fun e w' => ∃ v', e = .returned v' ∧ OwnD .u64 B64 79 w' w.heap.size v' X n ∧ Below w.heap.size w w' := by
  obtain ⟨A, c, rfl, hnc, hc⟩ := h.form
  have H := Lib.hid h
  clear h
  cases A with
  | none =>
    have h0 : n = 0 := by
      obtain ⟨A0, c0, e0, _, _, _, hr⟩ := H.out
      cases e0
      rcases Nat.eq_zero_or_pos n with h | h
      · exact h
      · obtain ⟨ad, e, _⟩ := hr h
        cases e
    subst h0
    have hnn := fun w => Lib.run_eql_slice_nil (P := Tryz.prog) w 22 79 none 0 c 0 0 Tryz.underlying22
    go_enter Tryz.func52, Tryz.ntmps52
    go_wp2_with fail
    go_ret
    exact ⟨_, rfl, OwnD.nil _, Below.refl _ _⟩
  | some ad =>
    have hnn := fun w => Lib.run_eql_slice_nil (P := Tryz.prog) w 22 79 (some ad) n c 0 0 Tryz.underlying22
    have HC : Hid (∀ j, j < n → w.cell? (ad.add j) = some (.int .u64 (dig B64 X (0 + j) : Nat))) := by
      intro j hj
      obtain ⟨ad', e, hcell⟩ := H.out.cell hj
      cases e
      rw [Nat.zero_add]
      exact hcell
    go_enter Tryz.func52, Tryz.ntmps52
    go_wp2_with (at_builtin; refine wpList_append_OwnDs _ rfl (.tmp 5) (.tmp 6) 22 79 rfl .u64 B64 8 Tryz.underlying22 info64 w.heap.size (.slice (some ⟨w.heap.size, 0, none⟩) 0 0) X 0 n rfl (OwnD.empty w _ (Nat.le_refl _) X) ad c rfl ?h1 (by omega) (by omega) ?h2 ?_; (case h1 => exact fun j hj => cell_below ((Below.refl _ _).alloc (Nat.le_refl _) _) (HC.out j hj)); (case h2 => simp); intro v' w' ho hg)
    go_ret
    rw [Nat.zero_add] at ho
    exact ⟨v', rfl, ho, ((Below.refl _ _).alloc (Nat.le_refl _) _).grown hg (by simp) (by simp [Value.ownBlock])⟩

set_option maxHeartbeats 1000000 in
set_option maxRecDepth 100000 in
theorem natShl_calls (v : Value) (X n m : Nat) (w : World) (h : Num .u64 B64 w v X m) (hn : n ≤ 65536) (hm : ∀ a, IsLen B64 X a → a ≤ 1024) :
    Calls Tryz.prog 58 #[v, .int .i64 n] w fun e w' => ∃ A r, e = .returned (.tuple #[.slice A r r, .nilIface]) ∧ Num .u64 B64 w' (.slice A r r) (X * 2 ^ n) r ∧ IsLen B64 (X * 2 ^ n) r ∧ Below w.heap.size w w' := by
  have H := Lib.hid h
  clear h
  go_enter Tryz.func58, Tryz.ntmps58
  go_wp2_with fail
  refine (natPlain_calls v m X w H.out).mono ?_
  rintro e w' ⟨A, a, rfl, rfl, ha, HA, hla⟩
  have hla' := hm a hla
  have HA' := Lib.hid HA
  have hl := Lib.hid hla
  clear HA hla hm H
  obtain ⟨q, s, hs, hns⟩ : ∃ q s, s < 64 ∧ n = 64 * q + s := ⟨n / 64, n % 64, Nat.mod_lt _ (by omega), (Nat.div_add_mod n 64).symm⟩
  have hq : (n : Int) / 64 = (q : Int) := by omega
  have hr : (n : Int) % 64 = (s : Int) := by omega
  have hq1 : q ≤ 1024 := by omega
  have hns' := Lib.hid hns
  clear hns
  obtain ⟨i0, hi0, hz0, hz1, hz2⟩ := info_parts info64
  have hmk := fun w => run_make (P := Tryz.prog) w 22 79 i0 (.int .u64 0) Tryz.underlying22 hi0 hz0 .i64 .i64 (q : Int) ((q : Int) + (a : Int) + 1) (by omega) (by omega) (by rw [hz2]; omega) (by omega)
  have e1 : ((q : Int) + (a : Int) + 1).toNat = q + a + 1 := by omega
  rw [hz1, e1, Nat.mul_one, Int.toNat_natCast] at hmk
  have hmk' : ∀ w, (Instr.makeSlice 22 (.int .i64 (q : Int)) (.int .i64 ((q : Int) + (a : Int) + 1))).run Tryz.prog w = .ok (.slice (some ⟨w.heap.size, 0, none⟩) q (q + a + 1)) (w.alloc (.cells (madeCells #[.int .u64 0] (q + a + 1)) 79)) := hmk
  clear hmk e1 hi0 hz0 hz1 hz2
  go_wp2_with fail
  have hmade : Hid (OwnD .u64 B64 79 (w.alloc (.cells (madeCells #[.int .u64 0] (q + a + 1)) 79)) w.heap.size (.slice (some ⟨w.heap.size, 0, none⟩) q (q + a + 1)) (X * 2 ^ n) q) :=
    OwnD.made _ _ _ (Nat.le_refl _) (by omega) (by omega) (fun i hi => by rw [hns'.out]; exact shl_bottom X q s i hi)
  refine (clone_calls _ X a _ (HA'.out.below ((Below.refl _ _).alloc (Nat.le_refl _) _)) (by omega)).mono ?_
  rintro e w1 ⟨cv, rfl, hcv, hb1⟩
  have hcv' := Lib.hid hcv
  have hb1' := Lib.hid hb1
  clear hcv hb1
  have h0 : dig B64 X a = 0 := dig_ge B64_pos hl.out.1 (Nat.le_refl _)
  have h0' := Lib.hid h0
  clear h0
  go_wp2_with (at_builtin; refine wpList_append_OwnD _ rfl (.tmp 34) (.tmp 35) 22 79 rfl .u64 B64 8 Tryz.underlying22 info64 (w.heap.size + 1) cv X a rfl ?h1 ⟨w1.heap.size, 0, none⟩ 1 rfl ?h2 (by omega) (by omega) ?h3 ?_; (case h1 => exact OwnD.alloc (OwnD.lower hcv'.out (by simp)) _); (case h2 => rw [h0'.out]; go_simp); (case h3 => have := hb1'.out.size; simp at this ⊢; omega); intro v2 w2 ho hg; obtain ⟨A2, c2, rfl, _⟩ := (ho.num B64_pos).form; have ho' := Lib.hid ho; have hg' := Lib.hid hg; clear ho hg)
  obtain ⟨hz, _⟩ | ⟨g2, c2', e2, hg2, hac2, hc2, hrow2⟩ := ho'.out.row B64_pos
  · cases hz
  cases e2
  have hrow2' : Hid (Row .u64 B64 79 w2 g2 (a + 1) X) := by
    rw [Nat.mod_eq_of_lt (Nat.lt_of_lt_of_le hl.out.1 (Nat.pow_le_pow_right B64_pos (Nat.le_succ a)))] at hrow2
    exact hrow2
  have hne : ∀ k, cv.ownBlock = some k → w.heap.size + 1 ≤ k := OwnD.base (OwnD.lower hcv'.out (by simp))
  have hb2 : Hid (Below w.heap.size w w2) := by
    have hb1 := hb1'.out
    refine Below.grown (Below.alloc (Below.trans ((Below.refl _ w).alloc (Nat.le_refl _) _) (hb1.mono (by simp))) ?_ _) hg'.out ?_ ?_
    · have := hb1.size; simp at this; omega
    · have := hb1.size; simp at this ⊢; omega
    · intro k hk; have := hne k hk; omega
  have hout : Hid (OwnD .u64 B64 79 w2 w.heap.size (.slice (some ⟨w.heap.size, 0, none⟩) q (q + a + 1)) (X * 2 ^ n) q) := by
    have h1 : (w.alloc (.cells (madeCells #[.int .u64 0] (q + a + 1)) 79)).grownBy w1 none := ⟨hb1'.out.os, hb1'.out.tape, hb1'.out.output, hb1'.out.size, fun i hi _ => hb1'.out.block i hi⟩
    refine World.ownsRow.kept (World.ownsRow.alloc (World.ownsRow.kept hmade.out h1 (.inr ?_)) _) hg'.out (.inr ?_)
    · simp [Value.ownBlock]
    · intro hk
      have := hne w.heap.size hk.symm
      omega
  clear ho' hg' hcv' hb1' hmade hrow2 hmk' HA'
  go_loopw [6, 7, 38] (fun v6 v7 v38 wr => ∃ i : Nat, v38 = .int .i64 i ∧ i ≤ a + 1 ∧ v6 = .slice (some ⟨w.heap.size, 0, none⟩) (q + i) (q + a + 1) ∧ v7 = .int .u64 (low B64 X (2 ^ s) i : Nat) ∧ Hid (OwnD .u64 B64 79 wr w.heap.size (.slice (some ⟨w.heap.size, 0, none⟩) (q + i) (q + a + 1)) (X * 2 ^ n) (q + i)) ∧ Hid (Row .u64 B64 79 wr g2 (a + 1) X) ∧ Hid (Below w.heap.size w wr)) (fun _ _ v _ => a + 1 - (intOf v).toNat)
  case atStart => exact ⟨0, rfl, Nat.zero_le _, rfl, by rw [low_zero]; rfl, hout, hrow2', hb2⟩
  case round =>
    clear hout hrow2' hb2
    obtain ⟨i, rfl, hi, rfl, rfl, hown, hrow, hbel⟩ := hrel
    by_cases hlt : i < a + 1
    · have hcell := hrow.out.cell hlt
      have hlw : low B64 X (2 ^ s) i < 2 ^ s := low_lt' B64_pos (Nat.two_pow_pos s)
      have hw := wrap_shl (dig B64 X i) s
      have hor := or_u64 (dig B64 X i * 2 ^ s % B64) (low B64 X (2 ^ s) i) (Nat.mod_lt _ B64_pos) (Nat.lt_trans hlw (by rw [B64_two]; exact Nat.pow_lt_pow_right (by omega) hs))
      obtain ⟨e1, e2⟩ := shl_limb X s i hs
      rw [e1] at hor
      have e2' := Lib.hid e2
      have hd : Hid (dig B64 (X * 2 ^ n) (q + i) = dig B64 (X * 2 ^ s) i) := by rw [hns'.out]; exact shl_top X q s i
      obtain ⟨p, hp⟩ : ∃ p, dig B64 X i * 2 ^ s % B64 = p := ⟨_, rfl⟩
      rw [hp] at hw hor
      clear e1 e2 hlw hp
      go_wp2_with (at_builtin; refine wpList_append_fitsD _ rfl (.tmp 42) (.tmp 49) 22 79 rfl .u64 B64 8 Tryz.underlying22 info64 w.heap.size w.heap.size (q + a + 1) (X * 2 ^ n) (q + i) rfl (OwnD.alloc hown.out _) ⟨wr.heap.size, 0, none⟩ 1 rfl ?h2 (by omega) ?_; (case h2 => rw [hd.out]; go_simp); intro w2 ho hg; have ho' := Lib.hid ho; have hg' := Lib.hid hg; clear ho hg)
      go_roundw
      case rel =>
        refine ⟨i + 1, by go_num, by omega, rfl, ?_, ho', hrow.out.alloc _ |>.grown hg'.out (by simp; omega), ?_⟩
        · rw [shr_low _ _ hs, e2'.out]
        · exact Below.grown (hbel.out.alloc hbel.out.size _) hg'.out (by have := hbel.out.size; simp; omega) (by simp)
      case measure => simp [intOf]; omega
    · obtain rfl : i = a + 1 := by omega
      have hz : X * 2 ^ n < B64 ^ (q + (a + 1)) := by rw [hns'.out]; exact shl_lt hl.out.1 hs
      have hnum := Lib.hid (hown.out.num' B64_pos hz)
      clear hz hown hrow
      go_wp2_with fail
      refine (natPlain_calls _ (q + (a + 1)) (X * 2 ^ n) wr hnum.out).mono ?_
      rintro e w' ⟨C, r, rfl, rfl, hr, HC, hlc⟩
      go_wp2
      go_ret2
      exact ⟨C, r, rfl, HC, hlc, hbel.out⟩
end Go.Proofs.YtmobnjlbbhhedaaGreatDoor
