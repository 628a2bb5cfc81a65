/- The walk of the statement NatShifts. -/
import Derived.Test.YtmkpeihcchdjcaaDoorAwk1
import Derived.Test.YtmkpeihcchdjcaaDoorLNSums
import Derived.WalkSpells
import Derived.Test.YtmkpeihcchdjcaaDoorCode
import Derived.Test.YtmkpeihcchdjcaaDoorNatG
import Derived.Test.YtmkpeihcchdjcaaDoorRefC
import Derived.Test.YtmkpeihcchdjcaaDoorRefN
import Derived.Test.YtmkpeihcchdjcaaDoorMemB
set_option linter.unusedVariables false
set_option linter.unusedSimpArgs false
namespace Go.Proofs.YtmkpeihcchdjcaaDoor
open Go.RowKit

theorem shl_len {X N n r : Nat} (hx : X < B64 ^ n) (hn : n ≤ 100) (hN : N ≤ 5000) (h : IsLen B64 (X * 2 ^ N) r) : r ≤ 200 := by
  obtain ⟨e, he⟩ : ∃ e, e = 79 := ⟨_, rfl⟩
  have h1 : 2 ^ N < B64 ^ e := by
    rw [B64_two, ← Nat.pow_mul]
    exact Nat.pow_lt_pow_right (by omega) (by omega)
  have h2 := h.le (n := r) (m := n + e) (by rw [Nat.pow_add]; exact Nat.mul_lt_mul'' hx h1)
  omega
theorem shift_back (X N : Nat) : X * 2 ^ N / 2 ^ N = X := Nat.mul_div_cancel _ (Nat.two_pow_pos N)

set_option maxHeartbeats 4000000 in
set_option maxRecDepth 100000 in
theorem natShifts_walk (a : Option Addr) (n c : Nat) (z : Int) (X : Nat) (w : World) (h : Num .u64 B64 w (.slice a n c) X n) (hz1 : -9223372036854775808 ≤ z) (hz2 : z ≤ 9223372036854775807) (hG : Handle w) :
    Calls Tryd.prog 7 #[.slice a n c, .int .i64 z] w fun e w' => e = .returned (.bool true) ∧ Below w.heap.size w w' := by
  have H := Lib.hid h
  have G := Lib.hid hG
  obtain ⟨_, _, e1, hc1, hc2⟩ := h.form
  cases e1
  clear h hG
  rcases (by omega : 100 < n ∨ (¬ 100 < n ∧ 5000 < z ∧ z ≤ 65536) ∨ (¬ 100 < n ∧ z < 0) ∨ (¬ 100 < n ∧ 65536 < z) ∨ (¬ 100 < n ∧ 0 ≤ z ∧ z ≤ 5000)) with h1 | ⟨h1, h2, h3⟩ | ⟨h1, h2⟩ | ⟨h1, h2⟩ | ⟨h1, h2, h3⟩
  iterate 2
    · go_enter Tryd.func7, Tryd.ntmps7
      go_wp2_with fail
      refine (awake1_calls w).mono ?_
      rintro e w1 ⟨rfl, hb1⟩
      have hb1' := Lib.hid hb1
      clear hb1
      go_wp2_with fail
      go_ret
      exact ⟨rfl, hb1'.out⟩
  · obtain ⟨N, hN⟩ : ∃ N, N = z.toNat := ⟨_, rfl⟩
    have hNb : N ≤ 9223372036854775807 := by omega
    have hmx : ∀ (ts : Array TypeId) (t : TypeId) (w : World), (Builtin.max_ ts t #[.int .i64 z, .int .i64 0]).run Tryd.prog w = .ok (.int .i64 (N : Nat)) w := fun ts t w => by
      rw [run_max_int2]
      have : (if (0 : Int) > z then (0 : Int) else z) = (N : Nat) := by split <;> omega
      rw [this]
    have shl := fun w (h : Num .u64 B64 w (.slice a n c) X n) => natShl_range _ X n z w h (by omega)
    have shr := fun w (h : Num .u64 B64 w (.slice a n c) X n) => natShr_calls _ X N n z w h (by omega) hN hNb
    have shl' := Lib.hid shl
    have shr' := Lib.hid shr
    clear shl shr hN
    go_enter Tryd.func7, Tryd.ntmps7
    go_wp2_with fail
    refine (awake1_calls w).mono ?_
    rintro e w1 ⟨rfl, hb⟩
    have B2 : Hid (Below w.heap.size w w1) := hb
    replace H := Lib.hid (H.out.below hb)
    replace G := Lib.hid (G.out.below hb)
    clear hb 
    go_wp2_with fail
    refine (shl'.out _ H.out).mono ?_
    rintro e w' ⟨rfl, rfl⟩
    go_wp2_with fail
    refine (shr'.out _ H.out).mono ?_
    rintro e w2 ⟨DA, dr, dc, rfl, hx1, hx2, hb⟩
    have B3 : Hid (Below w.heap.size w w2) := below_next B2.out hb
    replace H := Lib.hid (H.out.below hb)
    replace G := Lib.hid (G.out.below hb)
    have HD := Lib.hid hx1
    have LD := Lib.hid hx2
    clear hb hx1 hx2 B2
    go_wp2_with fail
    refine (code_calls 7 (by omega) _ G.out).mono ?_
    rintro e w3 ⟨rfl, hb⟩
    have B4 : Hid (Below w.heap.size w w3) := below_next B3.out hb
    replace H := Lib.hid (H.out.below hb)
    replace HD := Lib.hid (HD.out.below hb)
    replace G := Lib.hid (G.out.below hb)
    clear hb B3
    go_wp2_with fail
    refine (digits_calls _ X n _ H.out (by omega)).mono ?_
    rintro e w4 ⟨XA, xm, xc, rfl, hx1, hx2, hx3, hb⟩
    have B5 : Hid (Below w.heap.size w w4) := below_next B4.out hb
    replace H := Lib.hid (H.out.below hb)
    replace HD := Lib.hid (HD.out.below hb)
    replace G := Lib.hid (G.out.below hb)
    have HX := Lib.hid hx1
    have LX := Lib.hid hx2
    clear hb hx1 hx2 B4
    go_wp2_with fail
    refine (refShr_calls _ X N xm _ HX.out (by omega) hNb).mono ?_
    rintro e w5 ⟨RA, rr, rc, rfl, hx1, hx2, hb⟩
    have B6 : Hid (Below w.heap.size w w5) := below_next B5.out hb
    replace H := Lib.hid (H.out.below hb)
    replace HD := Lib.hid (HD.out.below hb)
    replace HX := Lib.hid (HX.out.below hb)
    replace G := Lib.hid (G.out.below hb)
    have HR := Lib.hid hx1
    have LR := Lib.hid hx2
    clear hb hx1 hx2 B5
    go_wp2_with fail
    refine (limbs_calls _ (X / 2 ^ N) rr _ HR.out (fun q hq => by have := hq.le (Nat.lt_of_le_of_lt (Nat.div_le_self _ _) HX.out.lt); omega)).mono ?_
    rintro e w6 ⟨v3, t3, rfl, hx1, hx2, hb⟩
    have B7 : Hid (Below w.heap.size w w6) := below_next B6.out hb
    replace H := Lib.hid (H.out.below hb)
    replace HD := Lib.hid (HD.out.below hb)
    replace HX := Lib.hid (HX.out.below hb)
    replace HR := Lib.hid (HR.out.below hb)
    replace G := Lib.hid (G.out.below hb)
    have HT := Lib.hid hx1
    have LT := Lib.hid hx2
    clear hb hx1 hx2 B6
    go_wp2_with fail
    refine (same_calls _ _ (X / 2 ^ N) (X / 2 ^ N) dr t3 _ HD.out HT.out).mono ?_
    rintro e w' ⟨z, rfl, hz, nd, rfl⟩
    have B8 : Hid (Below w.heap.size w (w6.drewN nd)) := below_drewN B7.out nd
    replace H := Lib.hid (H.out.drewN nd)
    replace HD := Lib.hid (HD.out.drewN nd)
    replace HX := Lib.hid (HX.out.drewN nd)
    replace HR := Lib.hid (HR.out.drewN nd)
    replace HT := Lib.hid (HT.out.drewN nd)
    replace G : Hid (Handle (w6.drewN nd)) := G
    clear B7
    obtain ⟨w7, hw'⟩ : ∃ u, u = w6.drewN nd := ⟨_, rfl⟩
    rw [← hw'] at B8 H HD HX HR HT G ⊢
    clear hw'
    obtain rfl : z = true := hz.2 ⟨LD.out.uniq LT.out, rfl⟩
    clear hz LD LT LR
    go_wp2_with fail
    go_ret
    exact ⟨rfl, B8.out⟩
  · obtain ⟨N, hN⟩ : ∃ N, N = z.toNat := ⟨_, rfl⟩
    have hNb : N ≤ 9223372036854775807 := by omega
    have hmx : ∀ (ts : Array TypeId) (t : TypeId) (w : World), (Builtin.max_ ts t #[.int .i64 z, .int .i64 0]).run Tryd.prog w = .ok (.int .i64 (N : Nat)) w := fun ts t w => by
      rw [run_max_int2]
      have : (if (0 : Int) > z then (0 : Int) else z) = (N : Nat) := by split <;> omega
      rw [this]
    have shl := fun w (h : Num .u64 B64 w (.slice a n c) X n) => natShl_range _ X n z w h (by omega)
    have shr := fun w (h : Num .u64 B64 w (.slice a n c) X n) => natShr_calls _ X N n z w h (by omega) hN hNb
    have shl' := Lib.hid shl
    have shr' := Lib.hid shr
    clear shl shr hN
    go_enter Tryd.func7, Tryd.ntmps7
    go_wp2_with fail
    refine (awake1_calls w).mono ?_
    rintro e w1 ⟨rfl, hb⟩
    have B2 : Hid (Below w.heap.size w w1) := hb
    replace H := Lib.hid (H.out.below hb)
    replace G := Lib.hid (G.out.below hb)
    clear hb 
    go_wp2_with fail
    refine (shl'.out _ H.out).mono ?_
    rintro e w' ⟨rfl, rfl⟩
    go_wp2_with fail
    refine (shr'.out _ H.out).mono ?_
    rintro e w2 ⟨DA, dr, dc, rfl, hx1, hx2, hb⟩
    have B3 : Hid (Below w.heap.size w w2) := below_next B2.out hb
    replace H := Lib.hid (H.out.below hb)
    replace G := Lib.hid (G.out.below hb)
    have HD := Lib.hid hx1
    have LD := Lib.hid hx2
    clear hb hx1 hx2 B2
    go_wp2_with fail
    refine (code_calls 7 (by omega) _ G.out).mono ?_
    rintro e w3 ⟨rfl, hb⟩
    have B4 : Hid (Below w.heap.size w w3) := below_next B3.out hb
    replace H := Lib.hid (H.out.below hb)
    replace HD := Lib.hid (HD.out.below hb)
    replace G := Lib.hid (G.out.below hb)
    clear hb B3
    go_wp2_with fail
    refine (digits_calls _ X n _ H.out (by omega)).mono ?_
    rintro e w4 ⟨XA, xm, xc, rfl, hx1, hx2, hx3, hb⟩
    have B5 : Hid (Below w.heap.size w w4) := below_next B4.out hb
    replace H := Lib.hid (H.out.below hb)
    replace HD := Lib.hid (HD.out.below hb)
    replace G := Lib.hid (G.out.below hb)
    have HX := Lib.hid hx1
    have LX := Lib.hid hx2
    clear hb hx1 hx2 B4
    go_wp2_with fail
    refine (refShr_calls _ X N xm _ HX.out (by omega) hNb).mono ?_
    rintro e w5 ⟨RA, rr, rc, rfl, hx1, hx2, hb⟩
    have B6 : Hid (Below w.heap.size w w5) := below_next B5.out hb
    replace H := Lib.hid (H.out.below hb)
    replace HD := Lib.hid (HD.out.below hb)
    replace HX := Lib.hid (HX.out.below hb)
    replace G := Lib.hid (G.out.below hb)
    have HR := Lib.hid hx1
    have LR := Lib.hid hx2
    clear hb hx1 hx2 B5
    go_wp2_with fail
    refine (limbs_calls _ (X / 2 ^ N) rr _ HR.out (fun q hq => by have := hq.le (Nat.lt_of_le_of_lt (Nat.div_le_self _ _) HX.out.lt); omega)).mono ?_
    rintro e w6 ⟨v3, t3, rfl, hx1, hx2, hb⟩
    have B7 : Hid (Below w.heap.size w w6) := below_next B6.out hb
    replace H := Lib.hid (H.out.below hb)
    replace HD := Lib.hid (HD.out.below hb)
    replace HX := Lib.hid (HX.out.below hb)
    replace HR := Lib.hid (HR.out.below hb)
    replace G := Lib.hid (G.out.below hb)
    have HT := Lib.hid hx1
    have LT := Lib.hid hx2
    clear hb hx1 hx2 B6
    go_wp2_with fail
    refine (same_calls _ _ (X / 2 ^ N) (X / 2 ^ N) dr t3 _ HD.out HT.out).mono ?_
    rintro e w' ⟨z, rfl, hz, nd, rfl⟩
    have B8 : Hid (Below w.heap.size w (w6.drewN nd)) := below_drewN B7.out nd
    replace H := Lib.hid (H.out.drewN nd)
    replace HD := Lib.hid (HD.out.drewN nd)
    replace HX := Lib.hid (HX.out.drewN nd)
    replace HR := Lib.hid (HR.out.drewN nd)
    replace HT := Lib.hid (HT.out.drewN nd)
    replace G : Hid (Handle (w6.drewN nd)) := G
    clear B7
    obtain ⟨w7, hw'⟩ : ∃ u, u = w6.drewN nd := ⟨_, rfl⟩
    rw [← hw'] at B8 H HD HX HR HT G ⊢
    clear hw'
    obtain rfl : z = true := hz.2 ⟨LD.out.uniq LT.out, rfl⟩
    clear hz LD LT LR
    go_wp2_with fail
    go_ret
    exact ⟨rfl, B8.out⟩
  · obtain ⟨N, rfl⟩ : ∃ N : Nat, z = (N : Int) := ⟨z.toNat, by omega⟩
    have hN : N ≤ 5000 := by omega
    clear hz1 hz2 G
    go_enter Tryd.func7, Tryd.ntmps7
    go_wp2_with fail
    refine (awake1_calls w).mono ?_
    rintro e w1 ⟨rfl, hb⟩
    have B2 : Hid (Below w.heap.size w w1) := hb
    replace H := Lib.hid (H.out.below hb)
    clear hb 
    go_wp2_with fail
    refine (natShl_calls _ X N n _ H.out (by omega) (fun q hq => by have := hq.le H.out.lt; omega)).mono ?_
    rintro e w2 ⟨UA, ur, rfl, hx1, hx2, hb⟩
    have B3 : Hid (Below w.heap.size w w2) := below_next B2.out hb
    replace H := Lib.hid (H.out.below hb)
    have HU := Lib.hid hx1
    have LU := Lib.hid hx2
    clear hb hx1 hx2 B2
    have hur := shl_len H.out.lt (by omega) hN LU.out
    go_wp2_with fail
    refine (natShr_calls _ X N n _ _ H.out (by omega) (by omega) (by omega)).mono ?_
    rintro e w3 ⟨DA, dr, dc, rfl, hx1, hx2, hb⟩
    have B4 : Hid (Below w.heap.size w w3) := below_next B3.out hb
    replace H := Lib.hid (H.out.below hb)
    replace HU := Lib.hid (HU.out.below hb)
    have HD := Lib.hid hx1
    have LD := Lib.hid hx2
    clear hb hx1 hx2 B3
    go_wp2_with fail
    refine (digits_calls _ X n _ H.out (by omega)).mono ?_
    rintro e w4 ⟨XA, xm, xc, rfl, hx1, hx2, hx3, hb⟩
    have B5 : Hid (Below w.heap.size w w4) := below_next B4.out hb
    replace H := Lib.hid (H.out.below hb)
    replace HU := Lib.hid (HU.out.below hb)
    replace HD := Lib.hid (HD.out.below hb)
    have HX := Lib.hid hx1
    have LX := Lib.hid hx2
    clear hb hx1 hx2 B4
    go_wp2_with fail
    refine (refShl_calls _ X N xm _ HX.out (by omega) (by omega)).mono ?_
    rintro e w5 ⟨RA, rr, rc, rfl, hx1, hx2, hrr, hb⟩
    have B6 : Hid (Below w.heap.size w w5) := below_next B5.out hb
    replace H := Lib.hid (H.out.below hb)
    replace HU := Lib.hid (HU.out.below hb)
    replace HD := Lib.hid (HD.out.below hb)
    replace HX := Lib.hid (HX.out.below hb)
    have HR := Lib.hid hx1
    have LR := Lib.hid hx2
    clear hb hx1 hx2 B5
    go_wp2_with fail
    refine (limbs_calls _ (X * 2 ^ N) rr _ HR.out (fun q hq => by have := hq.uniq LR.out; omega)).mono ?_
    rintro e w6 ⟨v3, t3, rfl, hx1, hx2, hb⟩
    have B7 : Hid (Below w.heap.size w w6) := below_next B6.out hb
    replace H := Lib.hid (H.out.below hb)
    replace HU := Lib.hid (HU.out.below hb)
    replace HD := Lib.hid (HD.out.below hb)
    replace HX := Lib.hid (HX.out.below hb)
    replace HR := Lib.hid (HR.out.below hb)
    have HT := Lib.hid hx1
    have LT := Lib.hid hx2
    clear hb hx1 hx2 B6
    go_wp2_with fail
    refine (same_calls _ _ (X * 2 ^ N) (X * 2 ^ N) ur t3 _ HU.out HT.out).mono ?_
    rintro e w' ⟨z, rfl, hz, nd, rfl⟩
    have B8 : Hid (Below w.heap.size w (w6.drewN nd)) := below_drewN B7.out nd
    replace H := Lib.hid (H.out.drewN nd)
    replace HU := Lib.hid (HU.out.drewN nd)
    replace HD := Lib.hid (HD.out.drewN nd)
    replace HX := Lib.hid (HX.out.drewN nd)
    replace HR := Lib.hid (HR.out.drewN nd)
    replace HT := Lib.hid (HT.out.drewN nd)
    clear B7
    obtain ⟨w7, hw'⟩ : ∃ u, u = w6.drewN nd := ⟨_, rfl⟩
    rw [← hw'] at B8 H HU HD HX HR HT ⊢
    clear hw'
    obtain rfl : z = true := hz.2 ⟨LU.out.uniq LT.out, rfl⟩
    clear hz LT LR
    clear HX HR HT
    clear LX
    go_wp2_with fail
    refine (digits_calls _ X n _ H.out (by omega)).mono ?_
    rintro e w8 ⟨XA, ym, xc, rfl, hx1, hx2, hx4, hb⟩
    have B9 : Hid (Below w.heap.size w w8) := below_next B8.out hb
    replace H := Lib.hid (H.out.below hb)
    replace HU := Lib.hid (HU.out.below hb)
    replace HD := Lib.hid (HD.out.below hb)
    have HX := Lib.hid hx1
    have LX := Lib.hid hx2
    clear hb hx1 hx2 B8
    go_wp2_with fail
    refine (refShr_calls _ X N ym _ HX.out (by omega) (by omega)).mono ?_
    rintro e w9 ⟨RA, r2, rc, rfl, hx1, hx2, hb⟩
    have B10 : Hid (Below w.heap.size w w9) := below_next B9.out hb
    replace H := Lib.hid (H.out.below hb)
    replace HU := Lib.hid (HU.out.below hb)
    replace HD := Lib.hid (HD.out.below hb)
    replace HX := Lib.hid (HX.out.below hb)
    have HR := Lib.hid hx1
    have LR := Lib.hid hx2
    clear hb hx1 hx2 B9
    go_wp2_with fail
    refine (limbs_calls _ (X / 2 ^ N) r2 _ HR.out (fun q hq => by have := hq.le (Nat.lt_of_le_of_lt (Nat.div_le_self _ _) HX.out.lt); omega)).mono ?_
    rintro e w10 ⟨v4, t4, rfl, hx1, hx2, hb⟩
    have B11 : Hid (Below w.heap.size w w10) := below_next B10.out hb
    replace H := Lib.hid (H.out.below hb)
    replace HU := Lib.hid (HU.out.below hb)
    replace HD := Lib.hid (HD.out.below hb)
    replace HX := Lib.hid (HX.out.below hb)
    replace HR := Lib.hid (HR.out.below hb)
    have HT := Lib.hid hx1
    have LT := Lib.hid hx2
    clear hb hx1 hx2 B10
    go_wp2_with fail
    refine (same_calls _ _ (X / 2 ^ N) (X / 2 ^ N) dr t4 _ HD.out HT.out).mono ?_
    rintro e w' ⟨z, rfl, hz, nd, rfl⟩
    have B12 : Hid (Below w.heap.size w (w10.drewN nd)) := below_drewN B11.out nd
    replace H := Lib.hid (H.out.drewN nd)
    replace HU := Lib.hid (HU.out.drewN nd)
    replace HD := Lib.hid (HD.out.drewN nd)
    replace HX := Lib.hid (HX.out.drewN nd)
    replace HR := Lib.hid (HR.out.drewN nd)
    replace HT := Lib.hid (HT.out.drewN nd)
    clear B11
    obtain ⟨w11, hw'⟩ : ∃ u, u = w10.drewN nd := ⟨_, rfl⟩
    rw [← hw'] at B12 H HU HD HX HR HT ⊢
    clear hw'
    obtain rfl : z = true := hz.2 ⟨LD.out.uniq LT.out, rfl⟩
    clear hz LT LR LD
    clear HX HR HT HD
    clear LX
    go_wp2_with fail
    refine (natShr_calls _ (X * 2 ^ N) N ur _ _ HU.out (by omega) (by omega) (by omega)).mono ?_
    rintro e w12 ⟨EA, er, ec, rfl, hx1, hx2, hb⟩
    have B13 : Hid (Below w.heap.size w w12) := below_next B12.out hb
    replace H := Lib.hid (H.out.below hb)
    replace HU := Lib.hid (HU.out.below hb)
    have HE := Lib.hid hx1
    have LE := Lib.hid hx2
    clear hb hx1 hx2 B12
    rw [shift_back] at HE LE
    go_wp2_with fail
    refine (natPlain_calls _ n X _ H.out).mono ?_
    rintro e w' ⟨PA, pm, rfl, rfl, _, hx1, hx2⟩
    have HP := Lib.hid hx1
    have LP := Lib.hid hx2
    clear hx1 hx2
    go_wp2_with fail
    refine (same_calls _ _ X X er pm _ HE.out HP.out).mono ?_
    rintro e w' ⟨z, rfl, hz, nd, rfl⟩
    have B14 : Hid (Below w.heap.size w (w12.drewN nd)) := below_drewN B13.out nd
    replace H := Lib.hid (H.out.drewN nd)
    replace HU := Lib.hid (HU.out.drewN nd)
    replace HE := Lib.hid (HE.out.drewN nd)
    replace HP := Lib.hid (HP.out.drewN nd)
    clear B13
    obtain ⟨w13, hw'⟩ : ∃ u, u = w12.drewN nd := ⟨_, rfl⟩
    rw [← hw'] at B14 H HU HE HP ⊢
    clear hw'
    obtain rfl : z = true := hz.2 ⟨LE.out.uniq LP.out, rfl⟩
    clear hz
    go_wp2_with fail
    go_ret
    exact ⟨rfl, B14.out⟩
end Go.Proofs.YtmkpeihcchdjcaaDoor
