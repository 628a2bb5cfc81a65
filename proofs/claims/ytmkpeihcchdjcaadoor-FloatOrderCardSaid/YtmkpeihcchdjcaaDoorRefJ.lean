/- The walks of outriggerref05's Num, outriggerref07's Good, Turn, Square. -/
import Derived.Test.YtmkpeihcchdjcaaDoorRefI
set_option linter.unusedVariables false
set_option linter.unusedSimpArgs false
namespace Go.Proofs.YtmkpeihcchdjcaaDoor
open Go.RowKit

set_option maxHeartbeats 1000000 in
set_option maxRecDepth 100000 in
theorem num_calls (x : Nat) (hx : x < 18446744073709551616) (hf : isFin x) (w : World) :
    Calls Tryd.prog 13 #[.int .u64 x] w fun e w' => ∃ r, e = .returned r ∧ RNum w' r (val x) 150 ∧ Below w.heap.size w w' := by
  have cp := Lib.hid (parts_calls x hx hf)
  go_enter Tryd.func13, Tryd.ntmps13
  go_wp2_with fail
  refine (cp.out _).mono ?_
  rintro e w1 ⟨v, rfl, ⟨neg, m, k, z, rfl, hz, hk, hm, hv, _⟩, nd, rfl⟩
  have hz2 : z + 1074 = (k : Int) := by omega
  have hz3 : -1074 ≤ z := by omega
  have hz4 : z ≤ 2000 := by omega
  have hv' := Lib.hid hv
  clear hz hv cp
  go_wp2_with fail
  have B0 : Hid (Below w.heap.size w ((w.alloc (.cells #[.bool false, .slice none 0 0] 33)).drewN nd)) := below_drewN ((Below.refl _ w).alloc (Nat.le_refl _) _) nd
  have Hblk : Hid (((w.alloc (.cells #[.bool false, .slice none 0 0] 33)).drewN nd).heap[w.heap.size]? = some (.cells #[.bool false, .slice none 0 0] 33 (0, 0))) := alloc_at rfl
  have hsz : w.heap.size < ((w.alloc (.cells #[.bool false, .slice none 0 0] 33)).drewN nd).heap.size := by simp
  generalize (w.alloc (.cells #[.bool false, .slice none 0 0] 33)).drewN nd = W at *
  refine (from2_calls m hm W).mono ?_
  rintro e w1 ⟨v1, rfl, hR1, hb1⟩
  obtain ⟨b1, A1, m1, c1, rfl⟩ := hR1.form
  have hR1' := Lib.hid hR1
  have hb1' := Lib.hid hb1
  clear hR1 hb1
  go_wp2_with fail
  refine (shlz_calls _ _ 4 k _ hR1'.out (by omega) (by omega)).mono ?_
  rintro e w2 ⟨v2, rfl, hR2, hb2⟩
  obtain ⟨b2, A2, m2, c2, X2, e2, hN2, hl2, hm2, hZ2, hp2⟩ := hR2
  subst e2
  have hX : X2 = m * 2 ^ k := by
    rw [← Int.natCast_mul] at hZ2
    cases b2
    · simp only [Bool.false_eq_true, if_false] at hZ2
      exact (Int.ofNat_inj.1 hZ2).symm
    · have := hp2 rfl
      simp only [if_true] at hZ2
      omega
  have HN2 := Lib.hid hN2
  have hb2' := Lib.hid hb2
  have hmm : m2 ≤ 150 := by omega
  have hX' := Lib.hid hX
  clear hN2 hl2 hZ2 hp2 hX hb2 hm2
  go_wp2_with fail
  have hW2 : Hid (W.heap.size ≤ w2.heap.size) := Nat.le_trans hb1'.out.size hb2'.out.size
  refine (new_calls neg _ X2 m2 _ (HN2.out.below ((Below.refl _ _).alloc (Nat.le_refl _) _))).mono ?_
  rintro e w3 ⟨v3, rfl, hR, hb3⟩
  obtain ⟨b3, A3, m3, c3, rfl⟩ := hR.form
  have hb4 : Below w2.heap.size w2 w3 := ((Below.refl _ w2).alloc (Nat.le_refl _) (.cells #[.bool b2, .slice A2 m2 c2] 33)).trans (hb3.mono (by simp))
  have hblk := (hb4.block _ (Nat.lt_of_lt_of_le hsz hW2.out)).trans ((hb2'.out.block _ (Nat.lt_of_lt_of_le hsz hb1'.out.size)).trans ((hb1'.out.block _ hsz).trans Hblk.out))
  have hput := Lib.hid (RNum.put ((B0.out.trans ((hb1'.out.mono B0.out.size).trans (hb2'.out.mono (Nat.le_trans B0.out.size hb1'.out.size)))).trans (hb4.mono (Nat.le_trans B0.out.size hW2.out))) (by omega) hblk hR)
  obtain ⟨k0, k1, k2, k3⟩ := kept_cells hblk
  have kr := Lib.hid (kept_reads hblk (.bool b3) (.slice A3 m3 c3))
  clear hR hb3 hb4 hblk
  go_wp2_with fail
  obtain ⟨q0, q1⟩ := kr.out
  refine bodyPost_ret (v := .agg #[.bool b3, .slice A3 m3 c3]) (by simp [results, Tryd.results13, go_sem, q0, q1]) rfl ?_
  have h1 := hput.out.1.le hmm
  rw [hX'.out, ← hv'.out] at h1
  exact ⟨_, rfl, h1, hput.out.2⟩
end Go.Proofs.YtmkpeihcchdjcaaDoor
