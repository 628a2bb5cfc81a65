/- The walk of the statement RatioTells. -/
import Derived.Test.YtmobnjlbbhhedaaGreatDoorAwk4
import Derived.Test.YtmobnjlbbhhedaaGreatDoorReG
import Derived.Test.YtmobnjlbbhhedaaGreatDoorCode
set_option linter.unusedVariables false
set_option linter.unusedSimpArgs false
namespace Go.Proofs.YtmobnjlbbhhedaaGreatDoor
open Go.RowKit

theorem sign_zero_iff3 {s : Bool} {X : Nat} : (if sgn s X < 0 then -1 else if sgn s X = 0 then (0 : Int) else 1) = 0 ↔ X = 0 := by
  rw [sign_if, Int.sign_eq_zero_iff_zero]
  cases s <;> simp [sgn]
theorem two_in4 (w : World) (x y : Array Value) (t : TypeId) :
    ((w.alloc (.cells x t)).alloc (.cells y t)).heap[w.heap.size]? = some (.cells x t (0, 0)) ∧
    ((w.alloc (.cells x t)).alloc (.cells y t)).heap[w.heap.size + 1]? = some (.cells y t (0, 0)) ∧
    Below w.heap.size w ((w.alloc (.cells x t)).alloc (.cells y t)) ∧
    ((w.alloc (.cells x t)).alloc (.cells y t)).heap.size = w.heap.size + 2 := by
  refine ⟨?_, alloc_at (by simp), ((Below.refl _ w).alloc (Nat.le_refl _) _).alloc (by simp) _, by simp⟩
  exact (((Below.refl (w.heap.size + 1) _).alloc (by simp) _).block _ (by omega)).trans (alloc_at rfl)
set_option maxHeartbeats 8000000 in
set_option maxRecDepth 100000 in
theorem ratioTells_walk (s1 : Bool) (A1 : Option Addr) (n1 c1 X1 : Nat) (t1 : Bool) (D1 : Option Addr) (m1 d1 Y1 : Nat) (s2 : Bool) (A2 : Option Addr) (n2 c2 X2 : Nat) (t2 : Bool) (D2 : Option Addr) (m2 d2 Y2 : Nat) (w : World)
    (h1 : Num .u64 B64 w (.slice A1 n1 c1) X1 n1) (k1 : Num .u64 B64 w (.slice D1 m1 d1) Y1 m1) (h2 : Num .u64 B64 w (.slice A2 n2 c2) X2 n2) (k2 : Num .u64 B64 w (.slice D2 m2 d2) Y2 m2)
    (hH : Handle w) (hT : TabAt w) (htab : Lib.TabIs Tryz.prog w "internal/strconv.uint64pow10" .u64 Lib.pow10Tab) :
    Calls Tryz.prog 6 #[.agg #[.bool s1, .slice A1 n1 c1, .bool t1, .slice D1 m1 d1], .agg #[.bool s2, .slice A2 n2 c2, .bool t2, .slice D2 m2 d2]] w fun e w' => e = .returned (.bool true) ∧ Below w.heap.size w w' := by
  have T := Lib.hid hT
  have TT := Lib.hid (Lib.tabBelow_of_tabIs htab)
  have HH := Lib.hid hH
  have H1 := Lib.hid h1
  have H2 := Lib.hid h2
  have K1 := Lib.hid k1
  have K2 := Lib.hid k2
  clear hT htab hH h1 h2 k1 k2
  go_enter Tryz.func6, Tryz.ntmps6
  go_wp2_with fail
  have E := two_in4 w #[.bool s1, .slice A1 n1 c1, .bool t1, .slice D1 m1 d1] #[.bool s2, .slice A2 n2 c2, .bool t2, .slice D2 m2 d2] 26
  generalize ((w.alloc (.cells #[.bool s1, .slice A1 n1 c1, .bool t1, .slice D1 m1 d1] 26)).alloc (.cells #[.bool s2, .slice A2 n2 c2, .bool t2, .slice D2 m2 d2] 26)) = W at *
  obtain ⟨E1, E2, EB, ES⟩ := E
  refine (awake4_calls W (T.out.below EB) (TT.out _ EB)).mono ?_
  rintro e w1 ⟨rfl, hb⟩
  have B1 := Lib.hid (below_next' EB hb)
  replace E1 := (hb.block _ (by omega)).trans E1
  replace E2 := (hb.block _ (by omega)).trans E2
  obtain ⟨⟨x0, x1, x2, x3⟩, _⟩ := kept4 E1
  obtain ⟨⟨y0, y1, y2, y3⟩, _⟩ := kept4 E2
  clear hb EB E1 E2
  by_cases hg : n1 ≤ 6 ∧ m1 ≤ 6 ∧ n2 ≤ 6 ∧ m2 ≤ 6
  · obtain ⟨nb1, mb1, nb2, mb2⟩ := hg
    go_wp2_with fail
    refine (refRight_calls s1 A1 n1 c1 X1 t1 D1 m1 d1 Y1 _ (H1.out.below B1.out) (K1.out.below B1.out) (by omega) (by omega)).mono ?_
    rintro e w2 ⟨r1, rfl, hr1, hb⟩
    have B2 := Lib.hid (below_next' B1.out hb)
    replace x0 := cell_below hb x0
    replace x1 := cell_below hb x1
    replace x2 := cell_below hb x2
    replace x3 := cell_below hb x3
    replace y0 := cell_below hb y0
    replace y1 := cell_below hb y1
    replace y2 := cell_below hb y2
    replace y3 := cell_below hb y3
    have R1 := Lib.hid hr1
    clear hb B1 hr1
    go_wp2_with fail
    refine (rtext_calls s1 A1 n1 c1 X1 t1 D1 m1 d1 Y1 _ (H1.out.below B2.out) (K1.out.below B2.out) (by omega) (by omega) (T.out.below B2.out) (TT.out _ B2.out)).mono ?_
    rintro e w3 ⟨hc0, hc1, hb⟩
    have B3 := Lib.hid (below_next' B2.out hb)
    replace x0 := cell_below hb x0
    replace x1 := cell_below hb x1
    replace x2 := cell_below hb x2
    replace x3 := cell_below hb x3
    replace y0 := cell_below hb y0
    replace y1 := cell_below hb y1
    replace y2 := cell_below hb y2
    replace y3 := cell_below hb y3
    clear hb B2
    rcases r1 with _ | _
    · have hnr : ¬ RightR s1 X1 n1 t1 Y1 m1 := fun h => Bool.noConfusion (R1.out.2 h)
      obtain rfl := hc1 hnr
      have NR := Lib.hid hnr
      clear hc0 hc1 R1 hnr
      simp only [errN]
      go_wp2_with fail
      refine (right_calls s1 A1 n1 c1 X1 t1 D1 m1 d1 Y1 _ (H1.out.below B3.out) (K1.out.below B3.out) (by omega) (by omega) (T.out.below B3.out)).mono ?_
      rintro e w4 ⟨z, rfl, hz, hb⟩
      obtain rfl : z = false := by
        cases z
        · rfl
        · exact absurd (hz.1 rfl) NR.out
      have B4 := Lib.hid (below_next' B3.out hb)
      replace x0 := cell_below hb x0
      replace x1 := cell_below hb x1
      replace x2 := cell_below hb x2
      replace x3 := cell_below hb x3
      replace y0 := cell_below hb y0
      replace y1 := cell_below hb y1
      replace y2 := cell_below hb y2
      replace y3 := cell_below hb y3
      clear hz hb B3
      go_wp2_with fail
      refine (code_calls 6 (by omega) _ (HH.out.below B4.out)).mono ?_
      rintro e w5 ⟨rfl, hb⟩
      have B5 := Lib.hid (below_next' B4.out hb)
      replace x0 := cell_below hb x0
      replace x1 := cell_below hb x1
      replace x2 := cell_below hb x2
      replace x3 := cell_below hb x3
      replace y0 := cell_below hb y0
      replace y1 := cell_below hb y1
      replace y2 := cell_below hb y2
      replace y3 := cell_below hb y3
      clear hb B4 NR
      go_wp2_with fail
      refine (rcmp_calls s1 A1 n1 c1 X1 t1 D1 m1 d1 Y1 s2 A2 n2 c2 X2 t2 D2 m2 d2 Y2 _ (H1.out.below B5.out) (K1.out.below B5.out) (H2.out.below B5.out) (K2.out.below B5.out) (by omega) (by omega) (by omega) (by omega)).mono ?_
      rintro e w6 ⟨g0, g1, hb⟩
      have B6 := Lib.hid (below_next' B5.out hb)
      replace x0 := cell_below hb x0
      replace x1 := cell_below hb x1
      replace x2 := cell_below hb x2
      replace x3 := cell_below hb x3
      replace y0 := cell_below hb y0
      replace y1 := cell_below hb y1
      replace y2 := cell_below hb y2
      replace y3 := cell_below hb y3
      clear hb B5
      by_cases hP : 0 < Y1 ∧ 0 < Y2
      · obtain rfl := g0 hP
        have PP := Lib.hid hP
        obtain ⟨hY1, hY2⟩ := hP
        obtain ⟨v, hv⟩ : ∃ v, v = cmpQ (sgn s1 X1) (sgn t1 Y1) (sgn s2 X2) (sgn t2 Y2) := ⟨_, rfl⟩
        rw [← hv]
        have VH := Lib.hid hv
        clear hv g0 g1
        go_wp2_with fail
        refine (fromz_calls _ (sgn t1 Y1) m1 _ (AInt.mk (K1.out.below B6.out)) (by omega)).mono ?_
        rintro e w7 ⟨u7, rfl, hv, hb⟩
        have B7 := Lib.hid (below_next' B6.out hb)
        have HV := Lib.hid hv
        replace x0 := cell_below hb x0
        replace x1 := cell_below hb x1
        replace x2 := cell_below hb x2
        replace x3 := cell_below hb x3
        replace y0 := cell_below hb y0
        replace y1 := cell_below hb y1
        replace y2 := cell_below hb y2
        replace y3 := cell_below hb y3
        have zc := Lib.hid (fun w h => sign_calls u7 (sgn t1 Y1) (4 * m1) w h)
        obtain ⟨zs, hzs⟩ : ∃ zs, zs = (if sgn t1 Y1 < 0 then -1 else if sgn t1 Y1 = 0 then (0 : Int) else 1) := ⟨_, rfl⟩
        have hzi : zs = 0 ↔ Y1 = 0 := by rw [hzs]; exact sign_zero_iff3
        rw [← hzs] at zc
        have hz0 : (zs == 0) = false := by simp; intro h; have := hzi.1 h; omega
        clear hzs hzi hv hb B6
        go_wp2_with fail
        refine (zc.out _ HV.out).mono ?_
        rintro e w8 ⟨rfl, hb⟩
        have B8 := Lib.hid (below_next' B7.out hb)
        replace x0 := cell_below hb x0
        replace x1 := cell_below hb x1
        replace x2 := cell_below hb x2
        replace x3 := cell_below hb x3
        replace y0 := cell_below hb y0
        replace y1 := cell_below hb y1
        replace y2 := cell_below hb y2
        replace y3 := cell_below hb y3
        clear hb B7 zc HV
        go_wp2_with fail
        clear hz0
        refine (fromz_calls _ (sgn t2 Y2) m2 _ (AInt.mk (K2.out.below B8.out)) (by omega)).mono ?_
        rintro e w9 ⟨u9, rfl, hv, hb⟩
        have B9 := Lib.hid (below_next' B8.out hb)
        have HV := Lib.hid hv
        replace x0 := cell_below hb x0
        replace x1 := cell_below hb x1
        replace x2 := cell_below hb x2
        replace x3 := cell_below hb x3
        replace y0 := cell_below hb y0
        replace y1 := cell_below hb y1
        replace y2 := cell_below hb y2
        replace y3 := cell_below hb y3
        have zc := Lib.hid (fun w h => sign_calls u9 (sgn t2 Y2) (4 * m2) w h)
        obtain ⟨zs, hzs⟩ : ∃ zs, zs = (if sgn t2 Y2 < 0 then -1 else if sgn t2 Y2 = 0 then (0 : Int) else 1) := ⟨_, rfl⟩
        have hzi : zs = 0 ↔ Y2 = 0 := by rw [hzs]; exact sign_zero_iff3
        rw [← hzs] at zc
        have hz0 : (zs == 0) = false := by simp; intro h; have := hzi.1 h; omega
        clear hzs hzi hv hb B8
        go_wp2_with fail
        refine (zc.out _ HV.out).mono ?_
        rintro e w10 ⟨rfl, hb⟩
        have B10 := Lib.hid (below_next' B9.out hb)
        replace x0 := cell_below hb x0
        replace x1 := cell_below hb x1
        replace x2 := cell_below hb x2
        replace x3 := cell_below hb x3
        replace y0 := cell_below hb y0
        replace y1 := cell_below hb y1
        replace y2 := cell_below hb y2
        replace y3 := cell_below hb y3
        clear hb B9 zc HV
        go_wp2_with fail
        refine (refRcmp_calls s1 A1 n1 c1 X1 t1 D1 m1 d1 Y1 s2 A2 n2 c2 X2 t2 D2 m2 d2 Y2 _ (H1.out.below B10.out) (K1.out.below B10.out) (H2.out.below B10.out) (K2.out.below B10.out) (by omega) (by omega) (by omega) (by omega) PP.out.1 PP.out.2).mono ?_
        rw [← VH.out]
        rintro e w11 ⟨rfl, hb⟩
        have B11 := Lib.hid (below_next' B10.out hb)
        clear hb B10
        go_wp2_with fail
        go_ret
        exact ⟨rfl, B11.out⟩
      · obtain rfl := g1 hP
        clear g0 g1
        simp only [errN]
        rcases Nat.eq_zero_or_pos Y1 with hY0 | hY1
        · have E6 := Lib.hid hY0
          go_wp2_with fail
          refine (fromz_calls _ (sgn t1 Y1) m1 _ (AInt.mk (K1.out.below B6.out)) (by omega)).mono ?_
          rintro e w7 ⟨u7, rfl, hv, hb⟩
          have B7 := Lib.hid (below_next' B6.out hb)
          have HV := Lib.hid hv
          replace x0 := cell_below hb x0
          replace x1 := cell_below hb x1
          replace x2 := cell_below hb x2
          replace x3 := cell_below hb x3
          replace y0 := cell_below hb y0
          replace y1 := cell_below hb y1
          replace y2 := cell_below hb y2
          replace y3 := cell_below hb y3
          have zc := Lib.hid (fun w h => sign_calls u7 (sgn t1 Y1) (4 * m1) w h)
          obtain ⟨zs, hzs⟩ : ∃ zs, zs = (if sgn t1 Y1 < 0 then -1 else if sgn t1 Y1 = 0 then (0 : Int) else 1) := ⟨_, rfl⟩
          have hzi : zs = 0 ↔ Y1 = 0 := by rw [hzs]; exact sign_zero_iff3
          rw [← hzs] at zc
          obtain rfl : zs = 0 := hzi.2 hY0
          clear hzs hzi hv hb B6
          go_wp2_with fail
          refine (zc.out _ HV.out).mono ?_
          rintro e w8 ⟨rfl, hb⟩
          have B8 := Lib.hid (below_next' B7.out hb)
          replace x0 := cell_below hb x0
          replace x1 := cell_below hb x1
          replace x2 := cell_below hb x2
          replace x3 := cell_below hb x3
          replace y0 := cell_below hb y0
          replace y1 := cell_below hb y1
          replace y2 := cell_below hb y2
          replace y3 := cell_below hb y3
          clear hb B7 zc HV
          go_wp2_with fail
          refine (code_calls 6 (by omega) _ (HH.out.below B8.out)).mono ?_
          rintro e w9 ⟨rfl, hb⟩
          have B9 := Lib.hid (below_next' B8.out hb)
          clear hb B8
          go_wp2_with fail
          go_ret
          exact ⟨rfl, B9.out⟩
        · have hY0 : Y2 = 0 := by omega
          clear hP
          go_wp2_with fail
          refine (fromz_calls _ (sgn t1 Y1) m1 _ (AInt.mk (K1.out.below B6.out)) (by omega)).mono ?_
          rintro e w7 ⟨u7, rfl, hv, hb⟩
          have B7 := Lib.hid (below_next' B6.out hb)
          have HV := Lib.hid hv
          replace x0 := cell_below hb x0
          replace x1 := cell_below hb x1
          replace x2 := cell_below hb x2
          replace x3 := cell_below hb x3
          replace y0 := cell_below hb y0
          replace y1 := cell_below hb y1
          replace y2 := cell_below hb y2
          replace y3 := cell_below hb y3
          have zc := Lib.hid (fun w h => sign_calls u7 (sgn t1 Y1) (4 * m1) w h)
          obtain ⟨zs, hzs⟩ : ∃ zs, zs = (if sgn t1 Y1 < 0 then -1 else if sgn t1 Y1 = 0 then (0 : Int) else 1) := ⟨_, rfl⟩
          have hzi : zs = 0 ↔ Y1 = 0 := by rw [hzs]; exact sign_zero_iff3
          rw [← hzs] at zc
          have hz0 : (zs == 0) = false := by simp; intro h; have := hzi.1 h; omega
          clear hzs hzi hv hb B6
          go_wp2_with fail
          refine (zc.out _ HV.out).mono ?_
          rintro e w8 ⟨rfl, hb⟩
          have B8 := Lib.hid (below_next' B7.out hb)
          replace x0 := cell_below hb x0
          replace x1 := cell_below hb x1
          replace x2 := cell_below hb x2
          replace x3 := cell_below hb x3
          replace y0 := cell_below hb y0
          replace y1 := cell_below hb y1
          replace y2 := cell_below hb y2
          replace y3 := cell_below hb y3
          clear hb B7 zc HV
          go_wp2_with fail
          clear hz0
          refine (fromz_calls _ (sgn t2 Y2) m2 _ (AInt.mk (K2.out.below B8.out)) (by omega)).mono ?_
          rintro e w9 ⟨u9, rfl, hv, hb⟩
          have B9 := Lib.hid (below_next' B8.out hb)
          have HV := Lib.hid hv
          replace x0 := cell_below hb x0
          replace x1 := cell_below hb x1
          replace x2 := cell_below hb x2
          replace x3 := cell_below hb x3
          replace y0 := cell_below hb y0
          replace y1 := cell_below hb y1
          replace y2 := cell_below hb y2
          replace y3 := cell_below hb y3
          have zc := Lib.hid (fun w h => sign_calls u9 (sgn t2 Y2) (4 * m2) w h)
          obtain ⟨zs, hzs⟩ : ∃ zs, zs = (if sgn t2 Y2 < 0 then -1 else if sgn t2 Y2 = 0 then (0 : Int) else 1) := ⟨_, rfl⟩
          have hzi : zs = 0 ↔ Y2 = 0 := by rw [hzs]; exact sign_zero_iff3
          rw [← hzs] at zc
          obtain rfl : zs = 0 := hzi.2 hY0
          clear hzs hzi hv hb B8
          go_wp2_with fail
          refine (zc.out _ HV.out).mono ?_
          rintro e w10 ⟨rfl, hb⟩
          have B10 := Lib.hid (below_next' B9.out hb)
          replace x0 := cell_below hb x0
          replace x1 := cell_below hb x1
          replace x2 := cell_below hb x2
          replace x3 := cell_below hb x3
          replace y0 := cell_below hb y0
          replace y1 := cell_below hb y1
          replace y2 := cell_below hb y2
          replace y3 := cell_below hb y3
          clear hb B9 zc HV
          go_wp2_with fail
          refine (code_calls 6 (by omega) _ (HH.out.below B10.out)).mono ?_
          rintro e w11 ⟨rfl, hb⟩
          have B11 := Lib.hid (below_next' B10.out hb)
          clear hb B10
          go_wp2_with fail
          go_ret
          exact ⟨rfl, B11.out⟩
    · have hrr := R1.out.1 rfl
      obtain rfl := hc0 hrr
      have RR := Lib.hid hrr
      clear hc0 hc1 R1 hrr
      obtain ⟨tx, htx⟩ : ∃ tx, tx = ratText (sgn s1 X1) Y1 := ⟨_, rfl⟩
      rw [← htx]
      have TX := Lib.hid htx
      clear htx
      go_wp2_with fail
      refine (right_calls s1 A1 n1 c1 X1 t1 D1 m1 d1 Y1 _ (H1.out.below B3.out) (K1.out.below B3.out) (by omega) (by omega) (T.out.below B3.out)).mono ?_
      rintro e w4 ⟨z, rfl, hz, hb⟩
      obtain rfl : z = true := hz.2 RR.out
      have B4 := Lib.hid (below_next' B3.out hb)
      replace x0 := cell_below hb x0
      replace x1 := cell_below hb x1
      replace x2 := cell_below hb x2
      replace x3 := cell_below hb x3
      replace y0 := cell_below hb y0
      replace y1 := cell_below hb y1
      replace y2 := cell_below hb y2
      replace y3 := cell_below hb y3
      clear hz hb B3
      go_wp2_with fail
      refine (refRtext_calls s1 A1 n1 c1 X1 t1 D1 m1 d1 Y1 _ (H1.out.below B4.out) (K1.out.below B4.out) (by omega) (by omega) RR.out.2.2.1 RR.out.2.2.2.1).mono ?_
      rw [← TX.out]
      rintro e w5 ⟨rfl, hb⟩
      have B5 := Lib.hid (below_next' B4.out hb)
      replace x0 := cell_below hb x0
      replace x1 := cell_below hb x1
      replace x2 := cell_below hb x2
      replace x3 := cell_below hb x3
      replace y0 := cell_below hb y0
      replace y1 := cell_below hb y1
      replace y2 := cell_below hb y2
      replace y3 := cell_below hb y3
      clear hb B4 RR TX
      go_wp2_with fail
      refine (rcmp_calls s1 A1 n1 c1 X1 t1 D1 m1 d1 Y1 s2 A2 n2 c2 X2 t2 D2 m2 d2 Y2 _ (H1.out.below B5.out) (K1.out.below B5.out) (H2.out.below B5.out) (K2.out.below B5.out) (by omega) (by omega) (by omega) (by omega)).mono ?_
      rintro e w6 ⟨g0, g1, hb⟩
      have B6 := Lib.hid (below_next' B5.out hb)
      replace x0 := cell_below hb x0
      replace x1 := cell_below hb x1
      replace x2 := cell_below hb x2
      replace x3 := cell_below hb x3
      replace y0 := cell_below hb y0
      replace y1 := cell_below hb y1
      replace y2 := cell_below hb y2
      replace y3 := cell_below hb y3
      clear hb B5
      by_cases hP : 0 < Y1 ∧ 0 < Y2
      · obtain rfl := g0 hP
        have PP := Lib.hid hP
        obtain ⟨hY1, hY2⟩ := hP
        obtain ⟨v, hv⟩ : ∃ v, v = cmpQ (sgn s1 X1) (sgn t1 Y1) (sgn s2 X2) (sgn t2 Y2) := ⟨_, rfl⟩
        rw [← hv]
        have VH := Lib.hid hv
        clear hv g0 g1
        go_wp2_with fail
        refine (fromz_calls _ (sgn t1 Y1) m1 _ (AInt.mk (K1.out.below B6.out)) (by omega)).mono ?_
        rintro e w7 ⟨u7, rfl, hv, hb⟩
        have B7 := Lib.hid (below_next' B6.out hb)
        have HV := Lib.hid hv
        replace x0 := cell_below hb x0
        replace x1 := cell_below hb x1
        replace x2 := cell_below hb x2
        replace x3 := cell_below hb x3
        replace y0 := cell_below hb y0
        replace y1 := cell_below hb y1
        replace y2 := cell_below hb y2
        replace y3 := cell_below hb y3
        have zc := Lib.hid (fun w h => sign_calls u7 (sgn t1 Y1) (4 * m1) w h)
        obtain ⟨zs, hzs⟩ : ∃ zs, zs = (if sgn t1 Y1 < 0 then -1 else if sgn t1 Y1 = 0 then (0 : Int) else 1) := ⟨_, rfl⟩
        have hzi : zs = 0 ↔ Y1 = 0 := by rw [hzs]; exact sign_zero_iff3
        rw [← hzs] at zc
        have hz0 : (zs == 0) = false := by simp; intro h; have := hzi.1 h; omega
        clear hzs hzi hv hb B6
        go_wp2_with fail
        refine (zc.out _ HV.out).mono ?_
        rintro e w8 ⟨rfl, hb⟩
        have B8 := Lib.hid (below_next' B7.out hb)
        replace x0 := cell_below hb x0
        replace x1 := cell_below hb x1
        replace x2 := cell_below hb x2
        replace x3 := cell_below hb x3
        replace y0 := cell_below hb y0
        replace y1 := cell_below hb y1
        replace y2 := cell_below hb y2
        replace y3 := cell_below hb y3
        clear hb B7 zc HV
        go_wp2_with fail
        clear hz0
        refine (fromz_calls _ (sgn t2 Y2) m2 _ (AInt.mk (K2.out.below B8.out)) (by omega)).mono ?_
        rintro e w9 ⟨u9, rfl, hv, hb⟩
        have B9 := Lib.hid (below_next' B8.out hb)
        have HV := Lib.hid hv
        replace x0 := cell_below hb x0
        replace x1 := cell_below hb x1
        replace x2 := cell_below hb x2
        replace x3 := cell_below hb x3
        replace y0 := cell_below hb y0
        replace y1 := cell_below hb y1
        replace y2 := cell_below hb y2
        replace y3 := cell_below hb y3
        have zc := Lib.hid (fun w h => sign_calls u9 (sgn t2 Y2) (4 * m2) w h)
        obtain ⟨zs, hzs⟩ : ∃ zs, zs = (if sgn t2 Y2 < 0 then -1 else if sgn t2 Y2 = 0 then (0 : Int) else 1) := ⟨_, rfl⟩
        have hzi : zs = 0 ↔ Y2 = 0 := by rw [hzs]; exact sign_zero_iff3
        rw [← hzs] at zc
        have hz0 : (zs == 0) = false := by simp; intro h; have := hzi.1 h; omega
        clear hzs hzi hv hb B8
        go_wp2_with fail
        refine (zc.out _ HV.out).mono ?_
        rintro e w10 ⟨rfl, hb⟩
        have B10 := Lib.hid (below_next' B9.out hb)
        replace x0 := cell_below hb x0
        replace x1 := cell_below hb x1
        replace x2 := cell_below hb x2
        replace x3 := cell_below hb x3
        replace y0 := cell_below hb y0
        replace y1 := cell_below hb y1
        replace y2 := cell_below hb y2
        replace y3 := cell_below hb y3
        clear hb B9 zc HV
        go_wp2_with fail
        refine (refRcmp_calls s1 A1 n1 c1 X1 t1 D1 m1 d1 Y1 s2 A2 n2 c2 X2 t2 D2 m2 d2 Y2 _ (H1.out.below B10.out) (K1.out.below B10.out) (H2.out.below B10.out) (K2.out.below B10.out) (by omega) (by omega) (by omega) (by omega) PP.out.1 PP.out.2).mono ?_
        rw [← VH.out]
        rintro e w11 ⟨rfl, hb⟩
        have B11 := Lib.hid (below_next' B10.out hb)
        clear hb B10
        go_wp2_with fail
        go_ret
        exact ⟨rfl, B11.out⟩
      · obtain rfl := g1 hP
        clear g0 g1
        simp only [errN]
        rcases Nat.eq_zero_or_pos Y1 with hY0 | hY1
        · have E6 := Lib.hid hY0
          go_wp2_with fail
          refine (fromz_calls _ (sgn t1 Y1) m1 _ (AInt.mk (K1.out.below B6.out)) (by omega)).mono ?_
          rintro e w7 ⟨u7, rfl, hv, hb⟩
          have B7 := Lib.hid (below_next' B6.out hb)
          have HV := Lib.hid hv
          replace x0 := cell_below hb x0
          replace x1 := cell_below hb x1
          replace x2 := cell_below hb x2
          replace x3 := cell_below hb x3
          replace y0 := cell_below hb y0
          replace y1 := cell_below hb y1
          replace y2 := cell_below hb y2
          replace y3 := cell_below hb y3
          have zc := Lib.hid (fun w h => sign_calls u7 (sgn t1 Y1) (4 * m1) w h)
          obtain ⟨zs, hzs⟩ : ∃ zs, zs = (if sgn t1 Y1 < 0 then -1 else if sgn t1 Y1 = 0 then (0 : Int) else 1) := ⟨_, rfl⟩
          have hzi : zs = 0 ↔ Y1 = 0 := by rw [hzs]; exact sign_zero_iff3
          rw [← hzs] at zc
          obtain rfl : zs = 0 := hzi.2 hY0
          clear hzs hzi hv hb B6
          go_wp2_with fail
          refine (zc.out _ HV.out).mono ?_
          rintro e w8 ⟨rfl, hb⟩
          have B8 := Lib.hid (below_next' B7.out hb)
          replace x0 := cell_below hb x0
          replace x1 := cell_below hb x1
          replace x2 := cell_below hb x2
          replace x3 := cell_below hb x3
          replace y0 := cell_below hb y0
          replace y1 := cell_below hb y1
          replace y2 := cell_below hb y2
          replace y3 := cell_below hb y3
          clear hb B7 zc HV
          go_wp2_with fail
          refine (code_calls 6 (by omega) _ (HH.out.below B8.out)).mono ?_
          rintro e w9 ⟨rfl, hb⟩
          have B9 := Lib.hid (below_next' B8.out hb)
          clear hb B8
          go_wp2_with fail
          go_ret
          exact ⟨rfl, B9.out⟩
        · have hY0 : Y2 = 0 := by omega
          clear hP
          go_wp2_with fail
          refine (fromz_calls _ (sgn t1 Y1) m1 _ (AInt.mk (K1.out.below B6.out)) (by omega)).mono ?_
          rintro e w7 ⟨u7, rfl, hv, hb⟩
          have B7 := Lib.hid (below_next' B6.out hb)
          have HV := Lib.hid hv
          replace x0 := cell_below hb x0
          replace x1 := cell_below hb x1
          replace x2 := cell_below hb x2
          replace x3 := cell_below hb x3
          replace y0 := cell_below hb y0
          replace y1 := cell_below hb y1
          replace y2 := cell_below hb y2
          replace y3 := cell_below hb y3
          have zc := Lib.hid (fun w h => sign_calls u7 (sgn t1 Y1) (4 * m1) w h)
          obtain ⟨zs, hzs⟩ : ∃ zs, zs = (if sgn t1 Y1 < 0 then -1 else if sgn t1 Y1 = 0 then (0 : Int) else 1) := ⟨_, rfl⟩
          have hzi : zs = 0 ↔ Y1 = 0 := by rw [hzs]; exact sign_zero_iff3
          rw [← hzs] at zc
          have hz0 : (zs == 0) = false := by simp; intro h; have := hzi.1 h; omega
          clear hzs hzi hv hb B6
          go_wp2_with fail
          refine (zc.out _ HV.out).mono ?_
          rintro e w8 ⟨rfl, hb⟩
          have B8 := Lib.hid (below_next' B7.out hb)
          replace x0 := cell_below hb x0
          replace x1 := cell_below hb x1
          replace x2 := cell_below hb x2
          replace x3 := cell_below hb x3
          replace y0 := cell_below hb y0
          replace y1 := cell_below hb y1
          replace y2 := cell_below hb y2
          replace y3 := cell_below hb y3
          clear hb B7 zc HV
          go_wp2_with fail
          clear hz0
          refine (fromz_calls _ (sgn t2 Y2) m2 _ (AInt.mk (K2.out.below B8.out)) (by omega)).mono ?_
          rintro e w9 ⟨u9, rfl, hv, hb⟩
          have B9 := Lib.hid (below_next' B8.out hb)
          have HV := Lib.hid hv
          replace x0 := cell_below hb x0
          replace x1 := cell_below hb x1
          replace x2 := cell_below hb x2
          replace x3 := cell_below hb x3
          replace y0 := cell_below hb y0
          replace y1 := cell_below hb y1
          replace y2 := cell_below hb y2
          replace y3 := cell_below hb y3
          have zc := Lib.hid (fun w h => sign_calls u9 (sgn t2 Y2) (4 * m2) w h)
          obtain ⟨zs, hzs⟩ : ∃ zs, zs = (if sgn t2 Y2 < 0 then -1 else if sgn t2 Y2 = 0 then (0 : Int) else 1) := ⟨_, rfl⟩
          have hzi : zs = 0 ↔ Y2 = 0 := by rw [hzs]; exact sign_zero_iff3
          rw [← hzs] at zc
          obtain rfl : zs = 0 := hzi.2 hY0
          clear hzs hzi hv hb B8
          go_wp2_with fail
          refine (zc.out _ HV.out).mono ?_
          rintro e w10 ⟨rfl, hb⟩
          have B10 := Lib.hid (below_next' B9.out hb)
          replace x0 := cell_below hb x0
          replace x1 := cell_below hb x1
          replace x2 := cell_below hb x2
          replace x3 := cell_below hb x3
          replace y0 := cell_below hb y0
          replace y1 := cell_below hb y1
          replace y2 := cell_below hb y2
          replace y3 := cell_below hb y3
          clear hb B9 zc HV
          go_wp2_with fail
          refine (code_calls 6 (by omega) _ (HH.out.below B10.out)).mono ?_
          rintro e w11 ⟨rfl, hb⟩
          have B11 := Lib.hid (below_next' B10.out hb)
          clear hb B10
          go_wp2_with fail
          go_ret
          exact ⟨rfl, B11.out⟩
  · have hg' : 6 < n1 ∨ (¬ 6 < n1 ∧ 6 < m1) ∨ (¬ 6 < n1 ∧ ¬ 6 < m1 ∧ 6 < n2) ∨ (¬ 6 < n1 ∧ ¬ 6 < m1 ∧ ¬ 6 < n2 ∧ 6 < m2) := by omega
    clear hg
    rcases hg' with h1 | ⟨h1, h2⟩ | ⟨h1, h2, h3⟩ | ⟨h1, h2, h3, h4⟩
    all_goals
      go_wp2_with fail
      go_ret
      exact ⟨rfl, B1.out⟩
end Go.Proofs.YtmobnjlbbhhedaaGreatDoor
