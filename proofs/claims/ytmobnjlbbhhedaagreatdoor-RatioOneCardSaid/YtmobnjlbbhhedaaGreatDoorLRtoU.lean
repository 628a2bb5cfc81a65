/- The walk of the statement RatioOne. -/
import Derived.Test.YtmobnjlbbhhedaaGreatDoorAwk4
import Derived.Test.YtmobnjlbbhhedaaGreatDoorReF
import Derived.Test.YtmobnjlbbhhedaaGreatDoorReG
import Derived.Test.YtmobnjlbbhhedaaGreatDoorRegL
set_option linter.unusedVariables false
set_option linter.unusedSimpArgs false
namespace Go.Proofs.YtmobnjlbbhhedaaGreatDoor
open Go.RowKit

theorem right_same {s1 s2 : Bool} {X1 Y1 X2 Y2 : Nat} (hy1 : 0 < Y1) (hy2 : 0 < Y2) (g1 : Nat.gcd X1 Y1 = 1) (g2 : Nat.gcd X2 Y2 = 1) :
    cmpQ (sgn s1 X1) (sgn false Y1) (sgn s2 X2) (sgn false Y2) = 0 ↔ sgn s1 X1 = sgn s2 X2 ∧ sgn false Y1 = sgn false Y2 := by
  have n1 : sgn false Y1 ≠ 0 := by simp [sgn]; omega
  have n2 : sgn false Y2 ≠ 0 := by simp [sgn]; omega
  rw [cmpQ_zero_iff n1 n2]
  constructor
  · intro h
    have h' := congrArg Int.natAbs h
    rw [Int.natAbs_mul, Int.natAbs_mul, natAbs_sgn, natAbs_sgn, natAbs_sgn, natAbs_sgn] at h'
    obtain ⟨rfl, rfl⟩ := least_same hy1 hy2 g1 g2 h'
    exact ⟨Int.eq_of_mul_eq_mul_right n1 h, rfl⟩
  · rintro ⟨e1, e2⟩
    rw [e1, e2]
theorem scaled {X Y K : Nat} (g : Nat.gcd X Y = 1) : Nat.gcd (X * K) (Y * K) = K := by
  rw [Nat.gcd_mul_right, g, Nat.one_mul]
theorem scaled_sign {s k fa fb : Bool} {X Y K : Nat} (hK : 0 < K) (hY : 0 < Y) (ha : sgn fa (X * K) = sgn s X * sgn k K) (hb : sgn fb (Y * K) = sgn false Y * sgn k K) : sgn (fa != fb) X = sgn s X := by
  rw [← sgn_mul] at ha hb
  have e1 := sgn_flag hb (Nat.mul_pos hY hK)
  rcases Nat.eq_zero_or_pos X with h0 | h0
  · rw [h0]
    cases s <;> cases (fa != fb) <;> rfl
  · have e2 := sgn_flag ha (Nat.mul_pos h0 hK)
    rw [e1, e2]
    cases s <;> cases k <;> rfl
theorem right_crat {s : Bool} {A : Option Addr} {n c X : Nat} {t : Bool} {D : Option Addr} {m d Y : Nat} {w : World} (hR : RightR s X n t Y m) (h : Num .u64 B64 w (.slice A n c) X n) (k : Num .u64 B64 w (.slice D m d) Y m) (hn : n ≤ 4) (hm : m ≤ 4) :
    CRat w (.agg #[.bool s, .slice A n c, .bool t, .slice D m d]) (sgn s X) (sgn t Y) 4 :=
  ⟨_, _, _, _, _, _, _, _, rfl, ⟨_, _, _, _, _, rfl, h, hR.1.1, hn, rfl, hR.1.2⟩, ⟨_, _, _, _, _, rfl, k, hR.2.1.1, hm, rfl, hR.2.1.2⟩⟩
theorem mul_abs {s k f : Bool} {X K U : Nat} (h : sgn s X * sgn k K = sgn f U) : U = X * K := by
  have h' := congrArg Int.natAbs h
  rw [Int.natAbs_mul, natAbs_sgn, natAbs_sgn, natAbs_sgn] at h'
  exact h'.symm
def IsMk (N D : Int) (L : Nat) : Value → World → Prop := fun v w => ∃ r, v = .tuple #[r, .nilIface] ∧ CRat w r N D L
theorem pers_isMk (N D : Int) (L : Nat) : Pers (IsMk N D L) := fun v w w' ⟨r, e, h⟩ hE => ⟨r, e, CRat.below h hE⟩
theorem sign_zero_iff2 {s : Bool} {X : Nat} : (if sgn s X < 0 then -1 else if sgn s X = 0 then (0 : Int) else 1) = 0 ↔ X = 0 := by
  rw [sign_if, Int.sign_eq_zero_iff_zero]
  cases s <;> simp [sgn]
theorem three_in' (w : World) (x y z : Array Value) (t u : TypeId) :
    (((w.alloc (.cells x t)).alloc (.cells y t)).alloc (.cells z u)).heap[w.heap.size]? = some (.cells x t (0, 0)) ∧
    (((w.alloc (.cells x t)).alloc (.cells y t)).alloc (.cells z u)).heap[w.heap.size + 1]? = some (.cells y t (0, 0)) ∧
    (((w.alloc (.cells x t)).alloc (.cells y t)).alloc (.cells z u)).heap[w.heap.size + 1 + 1]? = some (.cells z u (0, 0)) ∧
    Below w.heap.size w (((w.alloc (.cells x t)).alloc (.cells y t)).alloc (.cells z u)) ∧
    (((w.alloc (.cells x t)).alloc (.cells y t)).alloc (.cells z u)).heap.size = w.heap.size + 3 := by
  refine ⟨?_, ?_, alloc_at (by simp), (((Below.refl _ w).alloc (Nat.le_refl _) _).alloc (by simp) _).alloc (by simp; omega) _, by simp⟩
  · exact ((Below.refl (w.heap.size + 1) _).alloc (by simp <;> omega) _).block _ (by omega) |>.trans ((((Below.refl (w.heap.size + 1) _).alloc (by simp) _).block _ (by omega)).trans (alloc_at rfl))
  · exact (((Below.refl (w.heap.size + 2) _).alloc (by simp) _).block _ (by omega)).trans (alloc_at (by simp))
set_option maxHeartbeats 8000000 in
set_option maxRecDepth 100000 in
theorem ratioOne_walk (s1 : Bool) (A1 : Option Addr) (n1 c1 X1 : Nat) (t1 : Bool) (D1 : Option Addr) (m1 d1 Y1 : Nat) (s2 : Bool) (A2 : Option Addr) (n2 c2 X2 : Nat) (t2 : Bool) (D2 : Option Addr) (m2 d2 Y2 : Nat) (s3 : Bool) (A3 : Option Addr) (n3 c3 X3 : Nat) (w : World)
    (h1 : Num .u64 B64 w (.slice A1 n1 c1) X1 n1) (k1 : Num .u64 B64 w (.slice D1 m1 d1) Y1 m1) (h2 : Num .u64 B64 w (.slice A2 n2 c2) X2 n2) (k2 : Num .u64 B64 w (.slice D2 m2 d2) Y2 m2) (h3 : Num .u64 B64 w (.slice A3 n3 c3) X3 n3)
    (hT : TabAt w) (htab : Lib.TabIs Tryz.prog w "internal/strconv.uint64pow10" .u64 Lib.pow10Tab) :
    Calls Tryz.prog 3 #[.agg #[.bool s1, .slice A1 n1 c1, .bool t1, .slice D1 m1 d1], .agg #[.bool s2, .slice A2 n2 c2, .bool t2, .slice D2 m2 d2], .agg #[.bool s3, .slice A3 n3 c3]] w fun e w' => e = .returned (.bool true) ∧ Below w.heap.size w w' := by
  have T := Lib.hid hT
  have TT := Lib.hid (Lib.tabBelow_of_tabIs htab)
  have H1 := Lib.hid h1
  have H2 := Lib.hid h2
  have H3 := Lib.hid h3
  have K1 := Lib.hid k1
  have K2 := Lib.hid k2
  clear hT htab h1 h2 h3 k1 k2
  go_enter Tryz.func3, Tryz.ntmps3
  go_wp2_with fail
  have E := three_in' w #[.bool s1, .slice A1 n1 c1, .bool t1, .slice D1 m1 d1] #[.bool s2, .slice A2 n2 c2, .bool t2, .slice D2 m2 d2] #[.bool s3, .slice A3 n3 c3] 26 24
  generalize (((w.alloc (.cells #[.bool s1, .slice A1 n1 c1, .bool t1, .slice D1 m1 d1] 26)).alloc (.cells #[.bool s2, .slice A2 n2 c2, .bool t2, .slice D2 m2 d2] 26)).alloc (.cells #[.bool s3, .slice A3 n3 c3] 24)) = W at *
  obtain ⟨E1, E2, E3, EB, ES⟩ := E
  refine (awake4_calls W (T.out.below EB) (TT.out _ EB)).mono ?_
  rintro e w1 ⟨rfl, hb⟩
  have B1 := Lib.hid (below_next' EB hb)
  replace E1 := (hb.block _ (by omega)).trans E1
  replace E2 := (hb.block _ (by omega)).trans E2
  replace E3 := (hb.block _ (by omega)).trans E3
  obtain ⟨⟨x0, x1, x2, x3⟩, _⟩ := kept4 E1
  obtain ⟨⟨y0, y1, y2, y3⟩, _⟩ := kept4 E2
  obtain ⟨z0, z1, _, _⟩ := kept_cells E3
  clear hb EB E1 E2 E3
  by_cases hg : n1 ≤ 4 ∧ m1 ≤ 4 ∧ n2 ≤ 4 ∧ m2 ≤ 4 ∧ n3 ≤ 4
  · obtain ⟨nb1, mb1, nb2, mb2, nb3⟩ := hg
    go_wp2_with fail
    refine (refRight_calls s1 A1 n1 c1 X1 t1 D1 m1 d1 Y1 _ (H1.out.below B1.out) (K1.out.below B1.out) (by omega) (by omega)).mono ?_
    rintro e w2 ⟨r1, rfl, hr1, hb⟩
    have B2 := Lib.hid (below_next' B1.out hb)
    replace x0 := cell_below hb x0
    replace x1 := cell_below hb x1
    replace x2 := cell_below hb x2
    replace x3 := cell_below hb x3
    replace y0 := cell_below hb y0
    replace y1 := cell_below hb y1
    replace y2 := cell_below hb y2
    replace y3 := cell_below hb y3
    replace z0 := cell_below hb z0
    replace z1 := cell_below hb z1
    clear hb B1
    rcases r1 with _ | _
    · clear hr1
      go_wp2_with fail
      go_ret
      exact ⟨rfl, B2.out⟩
    have R1 := Lib.hid (hr1.1 rfl)
    clear hr1
    go_wp2_with fail
    refine (refRight_calls s2 A2 n2 c2 X2 t2 D2 m2 d2 Y2 _ (H2.out.below B2.out) (K2.out.below B2.out) (by omega) (by omega)).mono ?_
    rintro e w3 ⟨r2, rfl, hr2, hb⟩
    have B3 := Lib.hid (below_next' B2.out hb)
    replace x0 := cell_below hb x0
    replace x1 := cell_below hb x1
    replace x2 := cell_below hb x2
    replace x3 := cell_below hb x3
    replace y0 := cell_below hb y0
    replace y1 := cell_below hb y1
    replace y2 := cell_below hb y2
    replace y3 := cell_below hb y3
    replace z0 := cell_below hb z0
    replace z1 := cell_below hb z1
    clear hb B2
    rcases r2 with _ | _
    · clear hr2
      go_wp2_with fail
      go_ret
      exact ⟨rfl, B3.out⟩
    have R2 := Lib.hid (hr2.1 rfl)
    clear hr2
    obtain ⟨v, hv⟩ : ∃ v, v = cmpQ (sgn s1 X1) (sgn t1 Y1) (sgn s2 X2) (sgn t2 Y2) := ⟨_, rfl⟩
    have hsame : Hid (v = 0 ↔ sgn s1 X1 = sgn s2 X2 ∧ sgn t1 Y1 = sgn t2 Y2) := by
      obtain ⟨_, _, q1, q2, q3⟩ := R1.out
      obtain ⟨_, _, p1, p2, p3⟩ := R2.out
      rw [hv, q1, p1]
      exact right_same q2 p2 q3 p3
    have VH := Lib.hid hv
    clear hv
    go_wp2_with fail
    refine (rcmp_calls s1 A1 n1 c1 X1 t1 D1 m1 d1 Y1 s2 A2 n2 c2 X2 t2 D2 m2 d2 Y2 _ (H1.out.below B3.out) (K1.out.below B3.out) (H2.out.below B3.out) (K2.out.below B3.out) (by omega) (by omega) (by omega) (by omega)).mono ?_
    rintro e w4 ⟨hc, _, hb⟩
    obtain rfl := hc ⟨R1.out.2.2.2.1, R2.out.2.2.2.1⟩
    have B4 := Lib.hid (below_next' B3.out hb)
    rw [← VH.out]
    replace x0 := cell_below hb x0
    replace x1 := cell_below hb x1
    replace x2 := cell_below hb x2
    replace x3 := cell_below hb x3
    replace y0 := cell_below hb y0
    replace y1 := cell_below hb y1
    replace y2 := cell_below hb y2
    replace y3 := cell_below hb y3
    replace z0 := cell_below hb z0
    replace z1 := cell_below hb z1
    clear hc hb B3 VH
    go_wp2_with fail
    refine (same4_calls _ _ _ _ _ _ 4 4 _ (right_crat R1.out (H1.out.below B4.out) (K1.out.below B4.out) nb1 mb1) (right_crat R2.out (H2.out.below B4.out) (K2.out.below B4.out) nb2 mb2)).mono ?_
    rintro e w5 ⟨z, rfl, hz, hb⟩
    have B5 := Lib.hid (below_next' B4.out hb)
    replace x0 := cell_below hb x0
    replace x1 := cell_below hb x1
    replace x2 := cell_below hb x2
    replace x3 := cell_below hb x3
    replace y0 := cell_below hb y0
    replace y1 := cell_below hb y1
    replace y2 := cell_below hb y2
    replace y3 := cell_below hb y3
    replace z0 := cell_below hb z0
    replace z1 := cell_below hb z1
    obtain rfl : z = (v == 0) := by
      have h1 := hz.trans hsame.out.symm
      cases z
      · have : ¬ v = 0 := fun h => Bool.noConfusion (h1.2 h)
        simpa using this
      · simpa using h1.1 rfl
    clear hz hsame hb B4
    go_wp2_with fail
    refine (fromz_calls _ (sgn s3 X3) n3 _ (AInt.mk (H3.out.below B5.out)) (by omega)).mono ?_
    rintro e w6 ⟨v6, rfl, hv, hb⟩
    obtain ⟨f6, A6, m6, c6, rfl⟩ := hv.form
    have B6 := Lib.hid (below_next' B5.out hb)
    have HV := Lib.hid hv
    replace x0 := cell_below hb x0
    replace x1 := cell_below hb x1
    replace x2 := cell_below hb x2
    replace x3 := cell_below hb x3
    replace y0 := cell_below hb y0
    replace y1 := cell_below hb y1
    replace y2 := cell_below hb y2
    replace y3 := cell_below hb y3
    clear hv hb B5 z0 z1
    have Bd : Hid (∀ o, Below w6.heap.size w6 (w6.alloc o)) := fun o => (Below.refl _ _).alloc (Nat.le_refl _) _
    have zc := Lib.hid (fun w h => sign_calls (.agg #[.bool f6, .slice A6 m6 c6]) (sgn s3 X3) (4 * n3) w h)
    obtain ⟨zs, hzs⟩ : ∃ zs, zs = (if sgn s3 X3 < 0 then -1 else if sgn s3 X3 = 0 then (0 : Int) else 1) := ⟨_, rfl⟩
    have hzi : Hid (zs = 0 ↔ X3 = 0) := by rw [hzs]; exact sign_zero_iff2
    rw [← hzs] at zc
    have da := Lib.hid (fun t => cells2 (w := w6) (s := f6) (A := A6) (n := m6) (c := c6) (t := t))
    clear hzs
    go_wp2_with fail
    refine (zc.out _ (HV.out.below (Bd.out _))).mono ?_
    rintro e w7 ⟨rfl, hb⟩
    have hb2 : Below w6.heap.size w6 w7 := (Bd.out _).trans (hb.mono (by simp))
    have B7 := Lib.hid (below_next' B6.out hb2)
    have q0 := cell_below hb (da.out _).1
    have q1 := cell_below hb (da.out _).2
    replace x0 := cell_below hb2 x0
    replace x1 := cell_below hb2 x1
    replace x2 := cell_below hb2 x2
    replace x3 := cell_below hb2 x3
    replace HV := Lib.hid (HV.out.below hb2)
    clear hb hb2 B6 Bd zc da y0 y1 y2 y3
    by_cases hX : X3 = 0
    · obtain rfl : zs = 0 := hzi.out.2 hX
      clear hX hzi
      go_wp2_with fail
      go_ret
      exact ⟨rfl, B7.out⟩
    have hXp := Lib.hid (Nat.pos_of_ne_zero hX)
    have hz0 : (zs == 0) = false := by simp; intro h; exact hX (hzi.out.1 h)
    clear hX hzi
    go_wp2_with fail
    refine wp_region_late0 17 15 [IsV (.pointer (some ⟨w.heap.size, 0, none⟩)), IsV (.agg #[.bool s1, .slice A1 n1 c1]), IsR (sgn s1 X1) 16, IsV (.agg #[.bool f6, .slice A6 m6 c6]), IsR (sgn s1 X1 * sgn s3 X3) 32, IsC (sgn s1 X1 * sgn s3 X3) 32, IsV (.pointer (some ⟨w.heap.size, 2, none⟩)), IsV (.agg #[.bool t1, .slice D1 m1 d1]), IsR (sgn t1 Y1) 16, IsV (.agg #[.bool f6, .slice A6 m6 c6]), IsR (sgn t1 Y1 * sgn s3 X3) 32, IsC (sgn t1 Y1 * sgn s3 X3) 32, IsMk (sgn s1 X1) (sgn t1 Y1) 32, IsMk (sgn s1 X1) (sgn t1 Y1) 32, IsCR (sgn s1 X1) (sgn t1 Y1) 32, IsV .nilIface, NewB w7.heap.size 26 #[.bool false, .slice none 0 0, .bool false, .slice none 0 0]]
      (by kernel_rfl) (by kernel_rfl) rfl rfl rfl ⟨pers_isV _, pers_isV _, pers_isR _ _, pers_isV _, pers_isR _ _, pers_isC _ _, pers_isV _, pers_isV _, pers_isR _ _, pers_isV _, pers_isR _ _, pers_isC _ _, pers_isMk _ _ _, pers_isMk _ _ _, pers_isCR _ _ _, pers_isV _, pers_new _ _ _, trivial⟩ ?_ ?_ ?_
    · simp only [List.take_succ_cons, List.take_zero, Obl0, putAll, Act.put, List.setIfInBounds_toArray, List.set_cons_zero, List.set_cons_succ, Nat.reduceAdd]
      refine ⟨?_, ?_, ?_, ?_, ?_, ?_, ?_, ?_, ?_, ?_, ?_, ?_, ?_, ?_, ?_, ?_, ?_, trivial⟩
      all_goals
        intro xs w' hE hf K' hK
        simp only [factsOf, Region.binds, List.getElem?_cons_zero, List.getElem?_cons_succ, IsV, IsR, IsC, IsCR, IsMk, forall_const, true_and, and_true] at hf
      · go_simp
        exact hK.out _ _ rfl (Ext.refl _)
      · have f0 := cell_below hE x0
        have f1 := cell_below hE x1
        simp only [hf] at hK ⊢
        go_simp
        exact hK.out _ _ rfl (Ext.refl _)
      · simp only [hf] at hK ⊢
        go_simp
        refine (fromz_calls _ (sgn s1 X1) n1 _ (AInt.mk (H1.out.below (below_next' B7.out hE))) (by omega)).mono ?_
        rintro e w8 ⟨v8, rfl, hR, hb⟩
        exact hK.out _ _ (hR.le (by omega)) hb
      · have f0 := cell_below hE q0
        have f1 := cell_below hE q1
        go_simp
        exact hK.out _ _ rfl (Ext.refl _)
      · obtain ⟨p1, p2, _⟩ := hf
        simp only [p2] at hK ⊢
        go_simp
        refine (mulz_calls _ _ _ _ 16 16 _ p1 ((HV.out.below hE).le (by omega)) (by omega) (by omega)).mono ?_
        rintro e w8 ⟨v8, rfl, hR, hb⟩
        exact hK.out _ _ hR hb
      · obtain ⟨p1, _⟩ := hf
        go_simp
        refine (toz_calls _ _ 32 _ p1 (by omega)).mono ?_
        rintro e w8 ⟨v8, rfl, hR, hb⟩
        exact hK.out _ _ hR hb
      · go_simp
        exact hK.out _ _ rfl (Ext.refl _)
      · have f2 := cell_below hE x2
        have f3 := cell_below hE x3
        simp only [hf] at hK ⊢
        go_simp
        exact hK.out _ _ rfl (Ext.refl _)
      · obtain ⟨p1, _⟩ := hf
        simp only [p1] at hK ⊢
        go_simp
        refine (fromz_calls _ (sgn t1 Y1) m1 _ (AInt.mk (K1.out.below (below_next' B7.out hE))) (by omega)).mono ?_
        rintro e w8 ⟨v8, rfl, hR, hb⟩
        exact hK.out _ _ (hR.le (by omega)) hb
      · have f0 := cell_below hE q0
        have f1 := cell_below hE q1
        go_simp
        exact hK.out _ _ rfl (Ext.refl _)
      · obtain ⟨p1, p2, _⟩ := hf
        simp only [p2] at hK ⊢
        go_simp
        refine (mulz_calls _ _ _ _ 16 16 _ p1 ((HV.out.below hE).le (by omega)) (by omega) (by omega)).mono ?_
        rintro e w8 ⟨v8, rfl, hR, hb⟩
        exact hK.out _ _ hR hb
      · obtain ⟨p1, _⟩ := hf
        go_simp
        refine (toz_calls _ _ 32 _ p1 (by omega)).mono ?_
        rintro e w8 ⟨v8, rfl, hR, hb⟩
        exact hK.out _ _ hR hb
      · obtain ⟨p1, p2, _⟩ := hf
        obtain ⟨fa, AA, na, ca, U, ea, ha1, ha2, ha3, ha4, ha5⟩ := p1
        obtain ⟨fb, AB, nb, cb, V, eb, hb1, hb2, hb3, hb4, hb5⟩ := p2
        have G1 := Lib.hid ha4
        have G2 := Lib.hid hb4
        clear ha4 hb4
        simp only [ea, eb] at hK ⊢
        go_simp
        refine (make_calls fa AA na ca U fb AB nb cb V _ ha1 hb1 (by omega) (by omega) (T.out.below (below_next' B7.out hE))).mono ?_
        rintro e w8 ⟨_, hc, hb⟩
        obtain ⟨_, _, r3, r4, r5⟩ := R1.out
        have ha4 := G1.out
        have hb4 := G2.out
        have hXp' := hXp.out
        have eU := mul_abs ha4
        have eV := mul_abs hb4
        have hV : 0 < V := by rw [eV]; exact Nat.mul_pos r4 hXp'
        obtain ⟨ns, NA, nn, ds, DA, dn, rfl, hN, hD⟩ := hc hV
        rw [eU, eV, scaled r5, Nat.mul_div_cancel _ hXp'] at hN hD
        rw [eU] at ha4
        rw [eV] at hb4
        rw [scaled_sign hXp' r4 ha4.symm (by rw [← hb4, r3])] at hN
        refine hK.out _ _ ⟨_, rfl, ns, NA, nn, nn, ds, DA, dn, dn, rfl, hN.toC.le (by omega), ?_⟩ hb
        rw [r3]
        exact hD.toC.le (by omega)
      · exact hK.out _ _ hf (Ext.refl _)
      · obtain ⟨r, er, hr⟩ := hf
        simp only [er] at hK ⊢
        go_simp
        exact hK.out _ _ hr (Ext.refl _)
      · obtain ⟨⟨r, er, hr⟩, _⟩ := hf
        simp only [er] at hK ⊢
        go_simp
        exact hK.out _ _ rfl (Ext.refl _)
      · go_simp
        exact hK.out _ _ ⟨_, rfl, hE.size, alloc_at rfl⟩ (Ext.alloc _ _)
    all_goals
      simp only [List.drop_succ_cons, List.drop_zero, List.take_succ_cons, List.take_zero, putAll, Act.put, List.setIfInBounds_toArray, List.set_cons_zero, List.set_cons_succ, Nat.reduceAdd]
      intro xs w8 hE hf
      simp only [factsAll, IsV, IsR, IsC, IsCR, IsMk, AnyV, NewB, Nat.reduceAdd, true_and] at hf
    · obtain ⟨e0, e1, _, e3, _, _, e6, e7, _, e9, _, _, _, ⟨r13, e13, _⟩, e14, e15, ⟨g, e16, hg, hblk⟩, _⟩ := hf
      obtain ⟨b9, A9, n9, c9, b9', A9', n9', c9', e14', hN9, hD9⟩ := e14
      obtain ⟨⟨k0, k1, k2, k3⟩, kf⟩ := kept4 hblk
      have kf0 := kf 0
      have kf1 := kf 1
      have kf2 := kf 2
      have kf3 := kf 3
      have hp4 := put4 hblk (.bool b9) (.slice A9 n9 c9) (.bool b9') (.slice A9' n9' c9')
      have HN9 := Lib.hid (hN9.put4 (b0' := b9) (A0' := A9) (m0' := n9) (c0' := c9) (b1' := b9') (A1' := A9') (m1' := n9') (c1' := c9') hblk)
      have HD9 := Lib.hid (hD9.put4 (b0' := b9) (A0' := A9) (m0' := n9) (c0' := c9) (b1' := b9') (A1' := A9') (m1' := n9') (c1' := c9') hblk)
      have hb9 : Below w7.heap.size w7 ((((w8.setCell ⟨g, 0, none⟩ (.bool b9)).setCell ⟨g, 1, none⟩ (.slice A9 n9 c9)).setCell ⟨g, 2, none⟩ (.bool b9')).setCell ⟨g, 3, none⟩ (.slice A9' n9' c9')) :=
        (((hE.setCell hg _).setCell hg _).setCell hg _).setCell hg _
      have S9 := Lib.hid hb9
      have P9 := Lib.hid hp4
      simp only [e0, e1, e3, e6, e7, e9, e13, e14', e15, e16]
      have x0' := cell_below hb9 x0
      have x1' := cell_below hb9 x1
      have x2' := cell_below hb9 x2
      have x3' := cell_below hb9 x3
      obtain ⟨⟨p0, p1, p2, p3⟩, _⟩ := kept4 hp4
      clear e0 e1 e3 e6 e7 e9 e13 e14' e15 e16 hE hblk kf hN9 hD9 hb9 hp4 x0 x1 x2 x3 q0 q1
      go_wp2_with fail
      refine (same4_calls _ _ _ _ _ _ 32 4 _ ⟨_, _, _, _, _, _, _, _, rfl, HN9.out, HD9.out⟩ (right_crat R1.out (H1.out.below (below_next' B7.out S9.out)) (K1.out.below (below_next' B7.out S9.out)) nb1 mb1)).mono ?_
      rintro e w10 ⟨z, rfl, hz, hb⟩
      obtain rfl : z = true := hz.2 ⟨rfl, rfl⟩
      have B10 := Lib.hid (below_next' (below_next' B7.out S9.out) hb)
      clear hz hb S9 P9 p0 p1 p2 p3 x0' x1' x2' x3' HN9 HD9
      go_wp2_with fail
      go_ret
      exact ⟨rfl, B10.out⟩
    · obtain ⟨e0, e1, _, e3, _, _, e6, e7, _, e9, _, _, _, ⟨r13, e13, _⟩, e14, ⟨g, e16, hg, hblk⟩, _⟩ := hf
      obtain ⟨b9, A9, n9, c9, b9', A9', n9', c9', e14', hN9, hD9⟩ := e14
      obtain ⟨⟨k0, k1, k2, k3⟩, kf⟩ := kept4 hblk
      have kf0 := kf 0
      have kf1 := kf 1
      have kf2 := kf 2
      have kf3 := kf 3
      have hp4 := put4 hblk (.bool b9) (.slice A9 n9 c9) (.bool b9') (.slice A9' n9' c9')
      have HN9 := Lib.hid (hN9.put4 (b0' := b9) (A0' := A9) (m0' := n9) (c0' := c9) (b1' := b9') (A1' := A9') (m1' := n9') (c1' := c9') hblk)
      have HD9 := Lib.hid (hD9.put4 (b0' := b9) (A0' := A9) (m0' := n9) (c0' := c9) (b1' := b9') (A1' := A9') (m1' := n9') (c1' := c9') hblk)
      have hb9 : Below w7.heap.size w7 ((((w8.setCell ⟨g, 0, none⟩ (.bool b9)).setCell ⟨g, 1, none⟩ (.slice A9 n9 c9)).setCell ⟨g, 2, none⟩ (.bool b9')).setCell ⟨g, 3, none⟩ (.slice A9' n9' c9')) :=
        (((hE.setCell hg _).setCell hg _).setCell hg _).setCell hg _
      have S9 := Lib.hid hb9
      have P9 := Lib.hid hp4
      simp only [e0, e1, e3, e6, e7, e9, e13, e14', e16]
      have x0' := cell_below hb9 x0
      have x1' := cell_below hb9 x1
      have x2' := cell_below hb9 x2
      have x3' := cell_below hb9 x3
      obtain ⟨⟨p0, p1, p2, p3⟩, _⟩ := kept4 hp4
      clear e0 e1 e3 e6 e7 e9 e13 e14' e16 hE hblk kf hN9 hD9 hb9 hp4 x0 x1 x2 x3 q0 q1
      go_wp2_with fail
      refine (same4_calls _ _ _ _ _ _ 32 4 _ ⟨_, _, _, _, _, _, _, _, rfl, HN9.out, HD9.out⟩ (right_crat R1.out (H1.out.below (below_next' B7.out S9.out)) (K1.out.below (below_next' B7.out S9.out)) nb1 mb1)).mono ?_
      rintro e w10 ⟨z, rfl, hz, hb⟩
      obtain rfl : z = true := hz.2 ⟨rfl, rfl⟩
      have B10 := Lib.hid (below_next' (below_next' B7.out S9.out) hb)
      clear hz hb S9 P9 p0 p1 p2 p3 x0' x1' x2' x3' HN9 HD9
      go_wp2_with fail
      go_ret
      exact ⟨rfl, B10.out⟩
  · have hg' : 4 < n1 ∨ (¬ 4 < n1 ∧ 4 < m1) ∨ (¬ 4 < n1 ∧ ¬ 4 < m1 ∧ 4 < n2) ∨ (¬ 4 < n1 ∧ ¬ 4 < m1 ∧ ¬ 4 < n2 ∧ 4 < m2) ∨ (¬ 4 < n1 ∧ ¬ 4 < m1 ∧ ¬ 4 < n2 ∧ ¬ 4 < m2 ∧ 4 < n3) := by omega
    clear hg
    rcases hg' with h1 | ⟨h1, h2⟩ | ⟨h1, h2, h3⟩ | ⟨h1, h2, h3, h4⟩ | ⟨h1, h2, h3, h4, h5⟩
    all_goals
      go_wp2_with fail
      go_ret
      exact ⟨rfl, B1.out⟩
end Go.Proofs.YtmobnjlbbhhedaaGreatDoor
