/- The walk of the statement SplitScale. -/
import Derived.Test.YtmobnjlbbhhedaaDoorAwk3
import Derived.Test.YtmobnjlbbhhedaaDoorNatF
set_option linter.unusedVariables false
set_option linter.unusedSimpArgs false
namespace Go.Proofs.YtmobnjlbbhhedaaDoor
open Go.RowKit

theorem below_next {w w1 w2 : World} (h : Below w.heap.size w w1) (k : Below w1.heap.size w1 w2) : Below w.heap.size w w2 := h.trans (k.mono h.size)
theorem len0_of {X l : Nat} (h : IsLen 2 X l) : ((l : Int) == 0) = decide (X = 0) := by
  by_cases hX : X = 0
  · subst hX
    obtain rfl : l = 0 := h.uniq (IsLen.zero 2)
    simp
  · have := h.pos (by omega : 0 < X)
    simp [hX]; omega
theorem eq00 : ((0 : Int) == 0) = true := rfl

set_option maxHeartbeats 2000000 in
set_option maxRecDepth 100000 in
theorem splitScale_walk (a : Option Addr) (n c : Nat) (b : Option Addr) (m d : Nat) (u : Option Addr) (t v : Nat) (X Y Z : Nat) (w : World) (h : Num .u64 B64 w (.slice a n c) X n) (k : Num .u64 B64 w (.slice b m d) Y m) (g : Num .u64 B64 w (.slice u t v) Z t)
    (hT : TabAt w) (htab : Lib.TabIs Tryd.prog w "internal/strconv.uint64pow10" .u64 Lib.pow10Tab) :
    Calls Tryd.prog 4 #[.slice a n c, .slice b m d, .slice u t v] w fun e w' => e = .returned (.bool true) ∧ Below w.heap.size w w' := by
  have H := Lib.hid h
  have K := Lib.hid k
  have J := Lib.hid g
  have T := Lib.hid hT
  have TT := Lib.hid htab
  obtain ⟨_, _, e1, hc1, hc2⟩ := h.form
  cases e1
  obtain ⟨_, _, e1, hd1, hd2⟩ := k.form
  cases e1
  obtain ⟨_, _, e1, he1, he2⟩ := g.form
  cases e1
  clear h k g hT htab
  by_cases hg : n ≤ 8 ∧ m ≤ 8 ∧ t ≤ 8
  · obtain ⟨hn, hm, ht⟩ := hg
    go_enter Tryd.func4, Tryd.ntmps4
    go_wp2_with fail
    refine (awake3_calls w T.out TT.out).mono ?_
    rintro e w1 ⟨rfl, hb⟩
    have B1 := Lib.hid hb
    replace H := Lib.hid (H.out.below hb)
    replace K := Lib.hid (K.out.below hb)
    replace J := Lib.hid (J.out.below hb)
    clear hb TT
    go_wp2_with fail
    refine (natLen_calls _ Y m _ K.out (by omega)).mono ?_
    rintro e w' ⟨l, rfl, hl, rfl⟩
    by_cases hY : Y = 0
    · subst hY
      have hl0 : ((l : Int) == 0) = true := (len0_of hl).trans (by simp)
      clear hl
      go_wp2_with fail
      go_ret
      exact ⟨rfl, B1.out⟩
    have hl0 : ((l : Int) == 0) = false := (len0_of hl).trans (by simp [hY])
    have hY' : Hid (0 < Y) := by show 0 < Y; omega
    clear hl hY
    go_wp2_with fail
    refine (natLen_calls _ Z t _ J.out (by omega)).mono ?_
    rintro e w' ⟨l2, rfl, hl, rfl⟩
    by_cases hZ : Z = 0
    · subst hZ
      have hl1 : ((l2 : Int) == 0) = true := (len0_of hl).trans (by simp)
      clear hl
      go_wp2_with fail
      go_ret
      exact ⟨rfl, B1.out⟩
    have hl1 : ((l2 : Int) == 0) = false := (len0_of hl).trans (by simp [hZ])
    have hZ' : Hid (0 < Z) := by show 0 < Z; omega
    clear hl hZ
    go_wp2_with fail
    refine (natMul_calls _ _ X Z n t _ H.out J.out (fun p s hp hs => by have := hp.le H.out.lt; have := hs.le J.out.lt; omega)).mono ?_
    rintro e w2 ⟨P, p, rfl, hP, lP, hb⟩
    have B2 : Hid (Below w.heap.size w w2) := below_next B1.out hb
    replace H := Lib.hid (H.out.below hb)
    replace K := Lib.hid (K.out.below hb)
    replace J := Lib.hid (J.out.below hb)
    have HX := Lib.hid hP
    have hp : p ≤ 16 := lP.le (Nat.lt_of_lt_of_le (mul_lt_pow H.out.lt J.out.lt) (Nat.pow_le_pow_right B64_pos (by omega)))
    clear hb B1 hP lP
    go_wp2_with fail
    refine (natMul_calls _ _ Y Z m t _ K.out J.out (fun p s hp hs => by have := hp.le K.out.lt; have := hs.le J.out.lt; omega)).mono ?_
    rintro e w3 ⟨Q, q, rfl, hP, lP, hb⟩
    have B3 : Hid (Below w.heap.size w w3) := below_next B2.out hb
    replace H := Lib.hid (H.out.below hb)
    replace K := Lib.hid (K.out.below hb)
    replace J := Lib.hid (J.out.below hb)
    replace HX := Lib.hid (HX.out.below hb)
    have HY := Lib.hid hP
    have hq : q ≤ 16 := lP.le (Nat.lt_of_lt_of_le (mul_lt_pow K.out.lt J.out.lt) (Nat.pow_le_pow_right B64_pos (by omega)))
    clear hb B2 hP lP
    go_wp2_with fail
    refine (quo_calls _ _ X Y n m _ H.out K.out (by omega) (by omega) hY'.out).mono ?_
    rintro e w4 ⟨v1, v2, rfl, ⟨⟨r1, hP, lP⟩, _, _, _⟩, hb⟩
    have B4 : Hid (Below w.heap.size w w4) := below_next B3.out hb
    replace H := Lib.hid (H.out.below hb)
    replace K := Lib.hid (K.out.below hb)
    replace J := Lib.hid (J.out.below hb)
    replace HX := Lib.hid (HX.out.below hb)
    replace HY := Lib.hid (HY.out.below hb)
    have HQ := Lib.hid hP
    clear hb B3 hP lP
    go_wp2_with fail
    refine (quo_calls _ _ (X * Z) (Y * Z) p q _ HX.out HY.out (by omega) (by omega) (Nat.mul_pos hY'.out hZ'.out)).mono ?_
    rintro e w5 ⟨v3, v4, rfl, ⟨⟨r2, hP, lP⟩, _, _, _⟩, hb⟩
    have B5 : Hid (Below w.heap.size w w5) := below_next B4.out hb
    replace H := Lib.hid (H.out.below hb)
    replace K := Lib.hid (K.out.below hb)
    replace J := Lib.hid (J.out.below hb)
    replace HX := Lib.hid (HX.out.below hb)
    replace HY := Lib.hid (HY.out.below hb)
    replace HQ := Lib.hid (HQ.out.below hb)
    rw [Nat.mul_div_mul_right _ _ hZ'.out] at hP
    have HP := Lib.hid hP
    clear hb B4 hP lP
    go_wp2_with fail
    refine (gcd_calls _ _ X Y n m _ H.out K.out (by omega) (by omega) (T.out.below B5.out)).mono ?_
    rintro e w6 ⟨v5, r3, rfl, hP, lP, hb⟩
    have B6 : Hid (Below w.heap.size w w6) := below_next B5.out hb
    replace H := Lib.hid (H.out.below hb)
    replace K := Lib.hid (K.out.below hb)
    replace J := Lib.hid (J.out.below hb)
    replace HX := Lib.hid (HX.out.below hb)
    replace HY := Lib.hid (HY.out.below hb)
    replace HQ := Lib.hid (HQ.out.below hb)
    replace HP := Lib.hid (HP.out.below hb)
    have HG := Lib.hid hP
    have hr3 : r3 ≤ 8 := Nat.le_trans (lP.le (Nat.lt_of_le_of_lt (Nat.gcd_le_right _ hY'.out) K.out.lt)) hm
    clear hb B5 hP lP
    go_wp2_with fail
    refine (gcd_calls _ _ (X * Z) (Y * Z) p q _ HX.out HY.out (by omega) (by omega) (T.out.below B6.out)).mono ?_
    rintro e w7 ⟨v6, r4, rfl, hP, lP, hb⟩
    have B7 : Hid (Below w.heap.size w w7) := below_next B6.out hb
    replace H := Lib.hid (H.out.below hb)
    replace K := Lib.hid (K.out.below hb)
    replace J := Lib.hid (J.out.below hb)
    replace HX := Lib.hid (HX.out.below hb)
    replace HY := Lib.hid (HY.out.below hb)
    replace HQ := Lib.hid (HQ.out.below hb)
    replace HP := Lib.hid (HP.out.below hb)
    replace HG := Lib.hid (HG.out.below hb)
    rw [Nat.gcd_mul_right] at hP
    have HH := Lib.hid hP
    clear hb B6 hP lP
    go_wp2_with fail
    refine (natMul_calls _ _ (Nat.gcd X Y) Z r3 t _ HG.out J.out (fun p s hp hs => by have := hp.le HG.out.lt; have := hs.le J.out.lt; omega)).mono ?_
    rintro e w8 ⟨D, s, rfl, hP, lP, hb⟩
    have B8 : Hid (Below w.heap.size w w8) := below_next B7.out hb
    replace H := Lib.hid (H.out.below hb)
    replace K := Lib.hid (K.out.below hb)
    replace J := Lib.hid (J.out.below hb)
    replace HX := Lib.hid (HX.out.below hb)
    replace HY := Lib.hid (HY.out.below hb)
    replace HQ := Lib.hid (HQ.out.below hb)
    replace HP := Lib.hid (HP.out.below hb)
    replace HG := Lib.hid (HG.out.below hb)
    replace HH := Lib.hid (HH.out.below hb)
    have HM := Lib.hid hP
    clear hb B7 hP lP
    go_wp2_with fail
    refine (natCmp_calls _ _ (X / Y) (X / Y) r1 r2 w8 HQ.out HP.out).mono ?_
    rw [cmpN_eq rfl]
    rintro e w' ⟨rfl, nd, rfl⟩
    go_wp2_with fail
    refine (natCmp_calls _ _ (Nat.gcd X Y * Z) (Nat.gcd X Y * Z) r4 s _ (HH.out.drewN nd) (HM.out.drewN nd)).mono ?_
    rw [cmpN_eq rfl]
    rintro e w' ⟨rfl, nd2, rfl⟩
    go_wp2_with fail
    go_ret
    exact ⟨rfl, by first | exact below_drewN (below_drewN B8.out _) _ | exact below_drewN B8.out _⟩
  · have hg' : 8 < n ∨ (¬ 8 < n ∧ 8 < m) ∨ (¬ 8 < n ∧ ¬ 8 < m ∧ 8 < t) := by omega
    clear hg
    rcases hg' with h1 | ⟨h1, h2⟩ | ⟨h1, h2, h3⟩
    all_goals
      go_enter Tryd.func4, Tryd.ntmps4
      go_wp2_with fail
      refine (awake3_calls w T.out TT.out).mono ?_
      rintro e w1 ⟨rfl, hb1⟩
      have hb1' := Lib.hid hb1
      clear hb1
      go_wp2_with fail
      go_ret
      exact ⟨rfl, hb1'.out⟩
end Go.Proofs.YtmobnjlbbhhedaaDoor
