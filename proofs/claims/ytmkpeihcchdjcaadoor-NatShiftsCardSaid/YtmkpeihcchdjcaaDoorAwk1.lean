/- The walk of outriggerlaw01.awake. -/
import Derived.Test.YtmkpeihcchdjcaaDoorNatF
import Derived.Test.YtmkpeihcchdjcaaDoorErrA
set_option linter.unusedVariables false
set_option linter.unusedSimpArgs false
namespace Go.Proofs.YtmkpeihcchdjcaaDoor
open Go.RowKit

theorem dig_B64_0 : dig B64 B64 0 = 0 := by decide
theorem dig_B64_1 : dig B64 B64 1 = 1 := by decide
theorem isLen2_B64 : IsLen 2 B64 65 := by
  refine ⟨by rw [B64_two]; exact Nat.pow_lt_pow_right (by omega) (by omega), fun m hm => ?_⟩
  rw [B64_two] at hm
  have := (Nat.pow_lt_pow_iff_right (a := 2) (by omega)).1 hm
  omega

theorem awk_num1 (w : World) (o : Obj) : Num .u64 B64 ((w.alloc (.cells #[.int .u64 18446744073709551615] 22)).alloc o) (.slice (some ⟨w.heap.size, 0, none⟩) 1 1) (B64 - 1) 1 :=
  Num.one (by decide) (by
    rw [World.cell?_alloc_past _ _ _ (by simp), World.cell?_alloc_at _ _ _ _ rfl]; rfl)
theorem awk_num2 (w : World) (o : Obj) : Num .u64 B64 ((w.alloc o).alloc (.cells #[.int .u64 1, .int .u64 0] 22)) (.slice (some ⟨w.heap.size + 1, 0, none⟩) 2 2) 1 2 :=
  Num.one0 (by decide) (by decide) (by rw [World.cell?_alloc_at _ _ _ _ (by simp)]; rfl) (by rw [World.cell?_alloc_at _ _ _ _ (by simp)]; rfl)
theorem awk_num3 (w : World) : Num .u64 B64 (w.alloc (.cells #[.int .u64 1] 22)) (.slice (some ⟨w.heap.size, 0, none⟩) 1 1) 1 1 :=
  Num.one (by decide) (by rw [World.cell?_alloc_at _ _ _ _ rfl]; rfl)

set_option maxHeartbeats 1000000 in
set_option maxRecDepth 100000 in
theorem awake1_calls (w : World) :
    Calls Tryd.prog 18 #[] w fun e w' => e = .returned (.bool true) ∧ Below w.heap.size w w' := by
  go_enter Tryd.func18, Tryd.ntmps18
  go_wp2_with fail
  refine (natAdd_calls _ _ (B64 - 1) 1 1 2 _ (awk_num1 w _) (awk_num2 w _) (by omega) (by omega)).mono ?_
  rintro e w1 ⟨A, r, rfl, hn, hl, hb⟩
  have e1 : B64 - 1 + 1 = B64 := by decide
  rw [e1] at hn hl
  obtain rfl : r = 2 := hl.uniq (IsLen.base B64 (by decide))
  have hb1 : Hid (Below w.heap.size w w1) := Below.trans (((Below.refl _ w).alloc (Nat.le_refl _) _).alloc (by simp) _) (hb.mono (by simp; omega))
  have hn' := Lib.hid hn
  clear hn hl hb e1
  go_wp2_with fail
  refine (natSub_below _ _ 0 1 0 1 _ (Num.nil ..) (awk_num3 w1) (by omega)).mono ?_
  rintro e w2 ⟨rfl, nd, rfl⟩
  obtain ⟨ad, rfl, hc0⟩ := hn'.out.cell (show 0 < 2 by omega)
  obtain ⟨ad', e', hc1⟩ := hn'.out.cell (show 1 < 2 by omega)
  cases e'
  rw [dig_B64_0, add_zero'] at hc0
  rw [dig_B64_1, show ad.add 1 = ⟨ad.block, ad.off + 1, none⟩ from by simp [Addr.add]] at hc1
  have hb2 : Hid (Below w1.heap.size w1 ((w1.alloc (.cells #[.int .u64 1] 22)).drewN nd)) := below_drewN ((Below.refl _ w1).alloc (Nat.le_refl _) _) nd
  have hd0 := cell_below hb2.out hc0
  have hd1 := cell_below hb2.out hc1
  clear hc0 hc1
  go_wp2_with fail
  refine (errIs_same 8 _).mono ?_
  rintro e w3 ⟨rfl, rfl⟩
  go_wp2_with fail
  refine (natLen_calls _ B64 2 _ (hn'.out.below hb2.out) (by omega)).mono ?_
  rintro e w3 ⟨k, rfl, hk, rfl⟩
  obtain rfl : k = 65 := hk.uniq isLen2_B64
  clear hk
  go_wp2_with fail
  go_ret
  exact ⟨rfl, hb1.out.trans (hb2.out.mono hb1.out.size)⟩
end Go.Proofs.YtmkpeihcchdjcaaDoor
