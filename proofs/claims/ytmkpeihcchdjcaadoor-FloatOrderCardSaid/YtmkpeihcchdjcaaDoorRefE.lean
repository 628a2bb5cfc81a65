/- The walk of the reference's Shl. -/
import Derived.Test.YtmkpeihcchdjcaaDoorRefD
set_option linter.unusedVariables false
set_option linter.unusedSimpArgs false
namespace Go.Proofs.YtmkpeihcchdjcaaDoor
open Go.RowKit

theorem B16_pow (q : Nat) : B16 ^ q = 2 ^ (16 * q) := by
  rw [Nat.pow_mul]
  rfl
theorem ref_shl (X q s : Nat) : X * 2 ^ s * B16 ^ q = X * 2 ^ (16 * q + s) := by
  rw [B16_pow, Nat.mul_assoc, ← Nat.pow_add]
  congr 2
  omega
theorem below_grown {w w' : World} {b : Nat} (h : Below b w w') (hb : b = w.heap.size) : w.grownBy w' none := by
  subst hb
  exact ⟨h.os, h.tape, h.output, h.size, fun i hi _ => h.block i hi⟩

set_option maxHeartbeats 2000000 in
set_option maxRecDepth 100000 in
theorem refShl_calls (v : Value) (X n m : Nat) (w : World) (h : Num .u32 B16 w v X m) (hm : m ≤ 10000) (hn : n ≤ 160000) :
    Calls Tryd.prog 34 #[v, .int .i64 n] w fun e w' => ∃ A r c, e = .returned (.slice A r c) ∧ Num .u32 B16 w' (.slice A r c) (X * 2 ^ n) r ∧ IsLen B16 (X * 2 ^ n) r ∧ r ≤ m + n / 16 + 1 ∧ Below w.heap.size w w' := by
  have H := Lib.hid h
  clear h
  obtain ⟨q, s, hs, hns⟩ : ∃ q s, s < 16 ∧ n = 16 * q + s := ⟨n / 16, n % 16, Nat.mod_lt _ (by omega), (Nat.div_add_mod n 16).symm⟩
  have hq : (n : Int) / 16 = (q : Int) := by omega
  have hr : (n : Int) % 16 = (s : Int) := by omega
  have hq1 : q ≤ 10000 := by omega
  have hq2 : n / 16 = q := by omega
  rw [hq2]
  have hns' := Lib.hid hns
  clear hns hq2
  have hmk := run_make_row' (P := Tryd.prog) 31 74 (.int .u32 0) 4 Tryd.underlying31 info16 rfl .i64 .i64 q (by omega) (by omega)
  have hZ : Hid (X * 2 ^ s * B16 ^ q = X * 2 ^ n) := by
    show _ = _
    rw [ref_shl, hns'.out]
  go_enter Tryd.func34, Tryd.ntmps34
  go_wp2_with fail
  have hout : Hid (OwnD .u32 B16 74 (w.alloc (.cells (madeCells #[.int .u32 0] q) 74)) w.heap.size (.slice (some ⟨w.heap.size, 0, none⟩) q q) (X * 2 ^ n) q) :=
    OwnD.made _ _ _ (Nat.le_refl _) (by omega) (by omega) (fun i hi => by rw [← hZ.out]; exact dig_shift_low B16_pos _ _ _ hi)
  clear hmk
  go_loop [6, 7] (fun v6 v7 => ∃ i p : Nat, v7 = .int .i64 i ∧ i ≤ s ∧ v6 = .int .u32 p ∧ Hid (p = 2 ^ i)) (fun _ v => s - (intOf v).toNat)
  case atStart => exact ⟨0, 1, rfl, Nat.zero_le _, rfl, rfl⟩
  case round =>
    obtain ⟨i, p, rfl, hi, rfl, hp⟩ := hrel
    by_cases hlt : i < s
    · obtain ⟨p2, hp2⟩ : ∃ p2, p2 = 2 * p := ⟨_, rfl⟩
      have hpb : p ≤ 32768 := by
        rw [hp.out]
        exact Nat.le_trans (Nat.pow_le_pow_right (by omega) (show i ≤ 15 by omega)) (by decide)
      have hw : IntKind.u32.wrap (2 * (p : Int)) = (p2 : Int) := by rw [IntKind.wrap_u32]; omega
      have hp2' : Hid (p2 = 2 ^ (i + 1)) := by
        show p2 = _
        rw [hp2, hp.out, Nat.pow_succ, Nat.mul_comm]
      clear hp hp2 hpb
      go_wp2_with fail
      go_round
      case rel => exact ⟨i + 1, p2, by go_num, by omega, rfl, hp2'⟩
      case measure => simp [intOf]; omega
    · obtain rfl : i = s := by omega
      have hpb : p < 65536 := by
        rw [hp.out]
        exact Nat.lt_of_le_of_lt (Nat.pow_le_pow_right (by omega) (show i ≤ 15 by omega)) (by decide)
      go_wp2_with fail
      have hb0 : Below w.heap.size w ((w.alloc (.cells (madeCells #[.int .u32 0] q) 74)).alloc (.cells #[.int .u32 p] 74)) := ((Below.refl _ w).alloc (Nat.le_refl _) _).alloc (by simp) _
      have hone : Num .u32 B16 ((w.alloc (.cells (madeCells #[.int .u32 0] q) 74)).alloc (.cells #[.int .u32 p] 74)) (.slice (some ⟨w.heap.size + 1, 0, none⟩) 1 1) p 1 :=
        Num.one (by unfold B16; omega) (by rw [World.cell?_alloc_at _ _ _ _ (by simp)]; rfl)
      refine (refMulA_calls v _ X p m 1 _ (H.out.below hb0) hone (by omega) (by omega)).mono ?_
      rintro e w1 ⟨A, r, c, rfl, HA, hla, hb1, ad, rfl⟩
      have hb1s : w.heap.size + 1 + 1 ≤ w1.heap.size := by have := hb1.size; simpa using this
      have hb2 : Hid (Below w.heap.size w w1) := hb0.trans (hb1.mono (by simp; omega))
      have hpe := hp.out
      rw [hpe] at HA hla
      have hrm : r ≤ m + 1 := by
        refine hla.2 _ ?_
        rw [Nat.pow_succ]
        exact Nat.mul_lt_mul'' H.out.lt (by rw [← hpe]; unfold B16; omega)
      have hown : Hid (OwnD .u32 B16 74 w1 w.heap.size (.slice (some ⟨w.heap.size, 0, none⟩) q q) (X * 2 ^ n) q) :=
        World.ownsRow.kept (World.ownsRow.alloc hout.out _) (below_grown hb1 rfl) (.inr (by simp [Value.ownBlock]))
      have hcells : Hid (∀ j, j < r → w1.cell? (ad.add j) = some (.int .u32 (dig B16 (X * 2 ^ n) (q + j) : Nat))) := by
        intro j hj
        obtain ⟨ad', e, hc⟩ := HA.cell hj
        cases e
        rw [hc, ← hZ.out, dig_shift B16_pos]
      have hlt2 : Hid (X * 2 ^ n < B16 ^ (q + r)) := by
        show _ < _
        rw [← hZ.out, Nat.pow_add, Nat.mul_comm]
        exact Nat.mul_lt_mul_of_pos_left HA.lt (Nat.pow_pos B16_pos)
      clear hb0 hone HA hla hb1 hpe hp hpb H hout
      go_wp2_with (at_builtin; refine wpList_append_OwnDs _ rfl (.tmp 19) (.tmp 23) 31 74 rfl .u32 B16 4 Tryd.underlying31 info16 w.heap.size (.slice (some ⟨w.heap.size, 0, none⟩) q q) (X * 2 ^ n) q r rfl hown.out ad c rfl hcells.out (by omega) (by omega) (by omega) ?_; intro v' w2 ho hg; have ho' := Lib.hid ho; have hg' := Lib.hid hg; clear ho hg)
      have hnum := Lib.hid (ho'.out.num' B16_pos hlt2.out)
      have hb3 : Hid (Below w.heap.size w w2) := hb2.out.grown hg'.out (by omega) (by simp [Value.ownBlock])
      clear ho' hg' hb2 hown hcells hlt2
      refine (trim_calls _ (q + r) (X * 2 ^ n) _ hnum.out).mono ?_
      rintro e w' ⟨C, r2, c2, rfl, rfl, hr2, HC, hlc⟩
      have HC' := Lib.hid HC
      have hlc' := Lib.hid hlc
      clear HC hlc
      go_wp2_with fail
      go_ret
      exact ⟨C, r2, c2, rfl, HC'.out, hlc'.out, by omega, hb3.out⟩
end Go.Proofs.YtmkpeihcchdjcaaDoor
