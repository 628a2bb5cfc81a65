/- The walk of the statement SplitGcd. -/
import Derived.Test.YtmobnjlbbhhedaaDoorAwk3
import Derived.Test.YtmobnjlbbhhedaaDoorNatF
import Derived.Test.YtmobnjlbbhhedaaDoorRefB
import Derived.Test.YtmobnjlbbhhedaaDoorRefQ
set_option linter.unusedVariables false
set_option linter.unusedSimpArgs false
namespace Go.Proofs.YtmobnjlbbhhedaaDoor
open Go.RowKit

theorem below_next {w w1 w2 : World} (h : Below w.heap.size w w1) (k : Below w1.heap.size w1 w2) : Below w.heap.size w w2 := h.trans (k.mono h.size)

set_option maxHeartbeats 2000000 in
set_option maxRecDepth 100000 in
theorem splitGcd_walk (a : Option Addr) (n c : Nat) (b : Option Addr) (m d : Nat) (X Y : Nat) (w : World) (h : Num .u64 B64 w (.slice a n c) X n) (k : Num .u64 B64 w (.slice b m d) Y m)
    (hT : TabAt w) (htab : Lib.TabIs Tryd.prog w "internal/strconv.uint64pow10" .u64 Lib.pow10Tab) :
    Calls Tryd.prog 3 #[.slice a n c, .slice b m d] w fun e w' => e = .returned (.bool true) ∧ Below w.heap.size w w' := by
  have H := Lib.hid h
  have K := Lib.hid k
  have T := Lib.hid hT
  have TT := Lib.hid htab
  obtain ⟨_, _, e1, hc1, hc2⟩ := h.form
  cases e1
  obtain ⟨_, _, e1, hd1, hd2⟩ := k.form
  cases e1
  clear h k hT htab
  by_cases hg : n ≤ 8 ∧ m ≤ 8
  · obtain ⟨hn, hm⟩ := hg
    go_enter Tryd.func3, Tryd.ntmps3
    go_wp2_with fail
    refine (awake3_calls w T.out TT.out).mono ?_
    rintro e w1 ⟨rfl, hb⟩
    have B1 := Lib.hid hb
    replace H := Lib.hid (H.out.below hb)
    replace K := Lib.hid (K.out.below hb)
    clear hb TT
    go_wp2_with fail
    refine (gcd_calls _ _ X Y n m _ H.out K.out (by omega) (by omega) (T.out.below B1.out)).mono ?_
    rintro e w2 ⟨v1, r, rfl, hP, lP, hb⟩
    obtain ⟨GA, gc, rfl, hgc1, hgc2⟩ := hP.form
    have B2 : Hid (Below w.heap.size w w2) := below_next B1.out hb
    replace H := Lib.hid (H.out.below hb)
    replace K := Lib.hid (K.out.below hb)
    have G := Lib.hid hP
    have LG := Lib.hid lP
    clear hP lP hb B1
    go_wp2_with fail
    refine (digits_calls _ X n _ H.out (by omega)).mono ?_
    rintro e w3 ⟨XA, xm, xc, rfl, hx1, hx2, hx3, hb⟩
    have B3 : Hid (Below w.heap.size w w3) := below_next B2.out hb
    replace H := Lib.hid (H.out.below hb)
    replace K := Lib.hid (K.out.below hb)
    replace G := Lib.hid (G.out.below hb)
    have HX := Lib.hid hx1
    clear hx1 hx2 hb B2
    go_wp2_with fail
    refine (digits_calls _ Y m _ K.out (by omega)).mono ?_
    rintro e w4 ⟨YA, ym, yc, rfl, hx1, hx2, hy3, hb⟩
    have B4 : Hid (Below w.heap.size w w4) := below_next B3.out hb
    replace H := Lib.hid (H.out.below hb)
    replace K := Lib.hid (K.out.below hb)
    replace G := Lib.hid (G.out.below hb)
    replace HX := Lib.hid (HX.out.below hb)
    have HY := Lib.hid hx1
    clear hx1 hx2 hb B3
    go_wp2_with fail
    refine (refGcd_calls _ _ X Y xm 32 ym _ HX.out HY.out (by omega) (by omega) (by omega)).mono ?_
    rintro e w5 ⟨RA, rp, rc, rfl, hx1, hx2, hb⟩
    have B5 : Hid (Below w.heap.size w w5) := below_next B4.out hb
    replace H := Lib.hid (H.out.below hb)
    replace K := Lib.hid (K.out.below hb)
    replace G := Lib.hid (G.out.below hb)
    have HR := Lib.hid hx1
    have hrp : rp ≤ 64 := by
      by_cases hX : X = 0
      · rw [hX, Nat.gcd_zero_left] at hx2
        have := hx2.le HY.out.lt
        omega
      · have := hx2.le (Nat.lt_of_le_of_lt (Nat.gcd_le_left _ (by omega)) HX.out.lt)
        omega
    have LR := Lib.hid hx2
    clear hx1 hx2 hb B4 HX HY
    go_wp2_with fail
    refine (limbs_calls _ (Nat.gcd X Y) rp _ HR.out (fun q hq => by have := hq.uniq LR.out; omega)).mono ?_
    rintro e w6 ⟨v2, t1, rfl, hx1, hx2, hb⟩
    have B6 : Hid (Below w.heap.size w w6) := below_next B5.out hb
    replace H := Lib.hid (H.out.below hb)
    replace K := Lib.hid (K.out.below hb)
    replace G := Lib.hid (G.out.below hb)
    have HT := Lib.hid hx1
    have LT := Lib.hid hx2
    clear hx1 hx2 hb B5 HR LR
    go_wp2_with fail
    refine (same_calls _ _ (Nat.gcd X Y) (Nat.gcd X Y) r t1 w6 G.out HT.out).mono ?_
    rintro e w' ⟨z, rfl, hz, nd, rfl⟩
    obtain rfl : z = true := hz.2 ⟨LG.out.uniq LT.out, rfl⟩
    have B7 : Hid (Below w.heap.size w (w6.drewN nd)) := below_drewN B6.out nd
    replace H := Lib.hid (H.out.drewN nd)
    replace K := Lib.hid (K.out.drewN nd)
    replace G := Lib.hid (G.out.drewN nd)
    clear hz HT LT B6
    obtain ⟨w7, hw7⟩ : ∃ u, u = w6.drewN nd := ⟨_, rfl⟩
    rw [← hw7] at B7 H K G ⊢
    clear hw7
    by_cases hgz : Nat.gcd X Y = 0
    · obtain ⟨hX, hY⟩ := Nat.gcd_eq_zero_iff.1 hgz
      subst hX hY
      have hr : r = 0 := LG.out.uniq (by rw [hgz]; exact IsLen.zero _)
      subst hr
      clear hgz LG
      go_wp2_with fail
      refine (natLen_calls _ 0 n _ H.out (by omega)).mono ?_
      rintro e w' ⟨l, rfl, hl, rfl⟩
      obtain rfl : l = 0 := hl.uniq (IsLen.zero 2)
      clear hl
      go_wp2_with fail
      refine (natLen_calls _ 0 m _ K.out (by omega)).mono ?_
      rintro e w' ⟨l, rfl, hl, rfl⟩
      obtain rfl : l = 0 := hl.uniq (IsLen.zero 2)
      clear hl
      go_wp2_with fail
      go_ret
      exact ⟨rfl, B7.out⟩
    · have hg0 : Hid (0 < Nat.gcd X Y) := by show 0 < _; omega
      have hr0 : 0 < r := LG.out.pos hg0.out
      have hr8 : r ≤ 8 := by
        by_cases hX : X = 0
        · have h1 := LG.out
          rw [hX, Nat.gcd_zero_left] at h1
          have := h1.le K.out.lt
          omega
        · have := LG.out.le (Nat.lt_of_le_of_lt (Nat.gcd_le_left _ (by omega)) H.out.lt)
          omega
      obtain ⟨gg, hgg⟩ : ∃ gg, gg = Nat.gcd X Y := ⟨_, rfl⟩
      have d1 : Hid (X % gg = 0) := by show _ = 0; rw [hgg]; exact Nat.mod_eq_zero_of_dvd (Nat.gcd_dvd_left X Y)
      have d2 : Hid (Y % gg = 0) := by show _ = 0; rw [hgg]; exact Nat.mod_eq_zero_of_dvd (Nat.gcd_dvd_right X Y)
      have d3 : Hid (Nat.gcd (X / gg) (Y / gg) = 1) := by
        show _ = 1
        rw [Nat.gcd_div (hgg ▸ Nat.gcd_dvd_left X Y) (hgg ▸ Nat.gcd_dvd_right X Y), ← hgg, Nat.div_self (hgg ▸ hg0.out)]
      rw [← hgg] at G LG hg0
      clear hgg hgz
      go_wp2_with fail
      refine (quo_calls _ _ X gg n r _ H.out G.out (by omega) (by omega) hg0.out).mono ?_
      rintro e w8 ⟨q1, q2, rfl, ⟨⟨r1, hP, lP⟩, r2, hP2, lP2⟩, hb⟩
      rw [d1.out] at lP2
      obtain rfl : r2 = 0 := lP2.uniq (IsLen.zero _)
      obtain ⟨_, _, rfl, _, _⟩ := hP2.form
      have B8 : Hid (Below w.heap.size w w8) := below_next B7.out hb
      replace K := Lib.hid (K.out.below hb)
      replace G := Lib.hid (G.out.below hb)
      have HQ := Lib.hid hP
      have hr1 : r1 ≤ 8 := Nat.le_trans (lP.le (Nat.lt_of_le_of_lt (Nat.div_le_self _ _) H.out.lt)) hn
      clear hP lP hP2 lP2 hb B7
      go_wp2_with fail
      refine (quo_calls _ _ Y gg m r _ K.out G.out (by omega) (by omega) hg0.out).mono ?_
      rintro e w9 ⟨q3, q4, rfl, ⟨⟨r3, hP, lP⟩, r4, hP2, lP2⟩, hb⟩
      rw [d2.out] at lP2
      obtain rfl : r4 = 0 := lP2.uniq (IsLen.zero _)
      obtain ⟨_, _, rfl, _, _⟩ := hP2.form
      have B9 : Hid (Below w.heap.size w w9) := below_next B8.out hb
      replace HQ := Lib.hid (HQ.out.below hb)
      have HS := Lib.hid hP
      have hr3 : r3 ≤ 8 := Nat.le_trans (lP.le (Nat.lt_of_le_of_lt (Nat.div_le_self _ _) K.out.lt)) hm
      clear hP lP hP2 lP2 hb B8
      go_wp2_with fail
      refine (gcd_calls _ _ (X / gg) (Y / gg) r1 r3 _ HQ.out HS.out (by omega) (by omega) (T.out.below B9.out)).mono ?_
      rw [d3.out]
      rintro e w10 ⟨v5, r5, rfl, hP, lP, hb⟩
      obtain rfl : r5 = 1 := lP.uniq (isLen_lit (by decide) (by decide))
      obtain ⟨_, _, rfl, _, _⟩ := hP.form
      obtain ⟨ad, rfl, hcell⟩ := hP.cell (show 0 < 1 by omega)
      rw [add_zero', dig_small (by decide)] at hcell
      have hcell' : w10.cell? ad = some (.int .u64 1) := hcell
      have B10 : Hid (Below w.heap.size w w10) := below_next B9.out hb
      clear hP lP hb B9 hcell
      go_wp2_with fail
      go_ret
      exact ⟨rfl, B10.out⟩
  · have hg' : 8 < n ∨ (¬ 8 < n ∧ 8 < m) := by omega
    clear hg
    rcases hg' with h1 | ⟨h1, h2⟩
    all_goals
      go_enter Tryd.func3, Tryd.ntmps3
      go_wp2_with fail
      refine (awake3_calls w T.out TT.out).mono ?_
      rintro e w1 ⟨rfl, hb1⟩
      have hb1' := Lib.hid hb1
      clear hb1
      go_wp2_with fail
      go_ret
      exact ⟨rfl, hb1'.out⟩
end Go.Proofs.YtmobnjlbbhhedaaDoor
