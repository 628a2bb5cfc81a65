/- The walk of the statement SplitQuo. -/
import Derived.Test.YtmobnjlbbhhedaaDoorAwk3
import Derived.Test.YtmobnjlbbhhedaaDoorRefB
import Derived.Test.YtmobnjlbbhhedaaDoorRefO
import Derived.Test.YtmobnjlbbhhedaaDoorCode
set_option linter.unusedVariables false
set_option linter.unusedSimpArgs false
namespace Go.Proofs.YtmobnjlbbhhedaaDoor
open Go.RowKit

theorem below_next {w w1 w2 : World} (h : Below w.heap.size w w1) (k : Below w1.heap.size w1 w2) : Below w.heap.size w w2 := h.trans (k.mono h.size)
set_option maxRecDepth 100000 in
theorem quo_zero (v u : Value) (X n m : Nat) (w : World) (h : Num .u64 B64 w v X n) (k : Num .u64 B64 w u 0 m) :
    Calls Tryd.prog 15 #[v, u] w fun e w' => e = .returned (.tuple #[.slice none 0 0, .slice none 0 0, errN 6]) ∧ w = w' := by
  have H := Lib.hid h
  have K := Lib.hid k
  clear h k
  go_enter Tryd.func15, Tryd.ntmps15
  go_wp2_with fail
  refine (natPlain_calls _ n X w H.out).mono ?_
  rintro e w' ⟨A, a, rfl, rfl, ha, HA, hla⟩
  clear HA hla
  go_wp2_with fail
  refine (natPlain_calls _ m 0 w K.out).mono ?_
  rintro e w' ⟨B, b, rfl, rfl, hb, HB, hlb⟩
  obtain rfl : b = 0 := hlb.uniq (IsLen.zero _)
  clear HB hlb
  go_wp2_with fail
  go_ret3
  exact ⟨rfl, rfl⟩

set_option maxHeartbeats 2000000 in
set_option maxRecDepth 100000 in
theorem splitQuo_walk (a : Option Addr) (n c : Nat) (b : Option Addr) (m d : Nat) (X Y : Nat) (w : World) (h : Num .u64 B64 w (.slice a n c) X n) (k : Num .u64 B64 w (.slice b m d) Y m) (hH : Handle w)
    (hT : TabAt w) (htab : Lib.TabIs Tryd.prog w "internal/strconv.uint64pow10" .u64 Lib.pow10Tab) :
    Calls Tryd.prog 6 #[.slice a n c, .slice b m d] w fun e w' => e = .returned (.bool true) ∧ Below w.heap.size w w' := by
  have H := Lib.hid h
  have K := Lib.hid k
  have T := Lib.hid hT
  have TT := Lib.hid htab
  have HH := Lib.hid hH
  obtain ⟨_, _, e1, hc1, hc2⟩ := h.form
  cases e1
  obtain ⟨_, _, e1, hd1, hd2⟩ := k.form
  cases e1
  clear h k hT htab hH
  by_cases hg : n ≤ 20 ∧ m ≤ 20
  · obtain ⟨hn, hm⟩ := hg
    go_enter Tryd.func6, Tryd.ntmps6
    go_wp2_with fail
    refine (awake3_calls w T.out TT.out).mono ?_
    rintro e w1 ⟨rfl, hb⟩
    have B1 := Lib.hid hb
    replace H := Lib.hid (H.out.below hb)
    replace K := Lib.hid (K.out.below hb)
    clear hb TT
    rcases Nat.eq_zero_or_pos Y with hY | hY
    · subst hY
      go_wp2_with fail
      refine (quo_zero _ _ X n m _ H.out K.out).mono ?_
      rintro e w' ⟨rfl, rfl⟩
      simp only [errN]
      go_wp2_with fail
      refine (digits_calls _ 0 m _ K.out (by omega)).mono ?_
      rintro e w3 ⟨YA, ym, yc, rfl, hx1, hx2, hx3, hb⟩
      obtain rfl : ym = 0 := hx2.uniq (IsLen.zero _)
      have B3 : Hid (Below w.heap.size w w3) := below_next B1.out hb
      clear hx1 hx2 hb B1
      go_wp2_with fail
      refine (code_calls 6 (by omega) _ (HH.out.below B3.out)).mono ?_
      rintro e w4 ⟨rfl, hb⟩
      have B4 : Hid (Below w.heap.size w w4) := below_next B3.out hb
      clear hb B3
      go_wp2_with fail
      go_ret
      exact ⟨rfl, B4.out⟩
    · have hY' := Lib.hid hY
      clear hY
      go_wp2_with fail
      refine (quo_calls _ _ X Y n m _ H.out K.out (by omega) (by omega) hY'.out).mono ?_
      rintro e w2 ⟨q1, q2, rfl, ⟨⟨r1, hP, lP⟩, r2, hP2, lP2⟩, hb⟩
      have B2 : Hid (Below w.heap.size w w2) := below_next B1.out hb
      replace H := Lib.hid (H.out.below hb)
      replace K := Lib.hid (K.out.below hb)
      have HQ := Lib.hid hP
      have HR := Lib.hid hP2
      have LQ := Lib.hid lP
      have LR := Lib.hid lP2
      clear hP hP2 lP lP2 hb B1
      go_wp2_with fail
      refine (digits_calls _ Y m _ K.out (by omega)).mono ?_
      rintro e w3 ⟨YA, ym, yc, rfl, hx1, hx2, hy3, hb⟩
      have B3 : Hid (Below w.heap.size w w3) := below_next B2.out hb
      replace H := Lib.hid (H.out.below hb)
      replace HQ := Lib.hid (HQ.out.below hb)
      replace HR := Lib.hid (HR.out.below hb)
      have HY := Lib.hid hx1
      have hym : 0 < ym := hx2.pos hY'.out
      clear hx1 hx2 hb B2
      go_wp2_with fail
      refine (digits_calls _ X n _ H.out (by omega)).mono ?_
      rintro e w4 ⟨XA, xm, xc, rfl, hx1, hx2, hx3, hb⟩
      have B4 : Hid (Below w.heap.size w w4) := below_next B3.out hb
      replace HQ := Lib.hid (HQ.out.below hb)
      replace HR := Lib.hid (HR.out.below hb)
      replace HY := Lib.hid (HY.out.below hb)
      have HX := Lib.hid hx1
      clear hx1 hx2 hb B3
      go_wp2_with fail
      refine (refQuo_calls _ _ X Y xm ym _ HX.out HY.out (by omega) (by omega) hY'.out).mono ?_
      rintro e w5 ⟨v1, v2, p, q, rfl, h1, l1, h2, l2, hb⟩
      have B5 : Hid (Below w.heap.size w w5) := below_next B4.out hb
      replace HQ := Lib.hid (HQ.out.below hb)
      replace HR := Lib.hid (HR.out.below hb)
      have H1 := Lib.hid h1
      have H2 := Lib.hid h2
      have L1 := Lib.hid l1
      have L2 := Lib.hid l2
      have hp : p ≤ xm := l1.le (Nat.lt_of_le_of_lt (Nat.div_le_self _ _) HX.out.lt)
      have hq : q ≤ xm := l2.le (Nat.lt_of_le_of_lt (Nat.mod_le _ _) HX.out.lt)
      clear h1 h2 l1 l2 hb B4 HX HY
      go_wp2_with fail
      refine (limbs_calls _ (X / Y) p _ H1.out (fun q hq => by have := hq.uniq L1.out; omega)).mono ?_
      rintro e w6 ⟨v3, t1, rfl, hx1, hx2, hb⟩
      have B6 : Hid (Below w.heap.size w w6) := below_next B5.out hb
      replace HQ := Lib.hid (HQ.out.below hb)
      replace HR := Lib.hid (HR.out.below hb)
      replace H2 := Lib.hid (H2.out.below hb)
      have HT := Lib.hid hx1
      have LT := Lib.hid hx2
      clear hx1 hx2 hb B5 H1 L1
      go_wp2_with fail
      refine (same_calls _ _ (X / Y) (X / Y) r1 t1 w6 HQ.out HT.out).mono ?_
      rintro e w' ⟨z, rfl, hz, nd, rfl⟩
      obtain rfl : z = true := hz.2 ⟨LQ.out.uniq LT.out, rfl⟩
      clear hz HT LT HQ LQ
      go_wp2_with fail
      refine (limbs_calls _ (X % Y) q _ (H2.out.drewN nd) (fun q hq => by have := hq.uniq L2.out; omega)).mono ?_
      rintro e w7 ⟨v4, t2, rfl, hx1, hx2, hb'⟩
      have hb : Below w6.heap.size w6 w7 := (below_drewN (Below.refl _ w6) nd).trans (show Below w6.heap.size (w6.drewN nd) w7 from hb')
      have B7 : Hid (Below w.heap.size w w7) := below_next B6.out hb
      replace HR := Lib.hid (HR.out.below hb)
      have HT := Lib.hid hx1
      have LT := Lib.hid hx2
      clear hx1 hx2 hb hb' B6 H2 L2
      go_wp2_with fail
      refine (same_calls _ _ (X % Y) (X % Y) r2 t2 w7 HR.out HT.out).mono ?_
      rintro e w' ⟨z, rfl, hz, nd2, rfl⟩
      obtain rfl : z = true := hz.2 ⟨LR.out.uniq LT.out, rfl⟩
      clear hz
      go_wp2_with fail
      go_ret
      exact ⟨rfl, below_drewN B7.out _⟩
  · have hg' : 20 < n ∨ (¬ 20 < n ∧ 20 < m) := by omega
    clear hg
    rcases hg' with h1 | ⟨h1, h2⟩
    all_goals
      go_enter Tryd.func6, Tryd.ntmps6
      go_wp2_with fail
      refine (awake3_calls w T.out TT.out).mono ?_
      rintro e w1 ⟨rfl, hb1⟩
      have hb1' := Lib.hid hb1
      clear hb1
      go_wp2_with fail
      go_ret
      exact ⟨rfl, hb1'.out⟩
end Go.Proofs.YtmobnjlbbhhedaaDoor
