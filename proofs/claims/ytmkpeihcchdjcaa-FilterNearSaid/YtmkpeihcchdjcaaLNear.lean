/- The walk of outriggerlaw07.FilterNear. -/
import Derived.Test.YtmkpeihcchdjcaaRefM
import Derived.Test.YtmkpeihcchdjcaaFltK
set_option linter.unusedVariables false
set_option linter.unusedSimpArgs false
namespace Go.Proofs.Ytmkpeihcchdjcaa
open Go.RowKit

theorem shl1074_calls (v : Value) (Z : Int) (L : Nat) (w : World) (h : RNum w v Z L) (hL : L ≤ 10000) :
    Calls Try.prog 16 #[v, .int .i64 1074] w fun e w' => ∃ r, e = .returned r ∧ RNum w' r (Z * (K1074 : Int)) (L + 70) ∧ Below w.heap.size w w' :=
  (shlz_calls v Z L c1074 w h hL (by unfold c1074; omega)).mono fun e w' ⟨r, e1, h1, h2⟩ => ⟨r, e1, h1.le (by unfold c1074; omega), h2⟩
theorem shl50_calls (v : Value) (Z : Int) (L : Nat) (w : World) (h : RNum w v Z L) (hL : L ≤ 10000) :
    Calls Try.prog 16 #[v, .int .i64 50] w fun e w' => ∃ r, e = .returned r ∧ RNum w' r (Z * 1125899906842624) (L + 10) ∧ Below w.heap.size w w' :=
  (shlz_calls v Z L 50 w h hL (by omega)).mono fun e w' ⟨r, e1, h1, h2⟩ => ⟨r, e1, h1.le (by omega), h2⟩
/-- A number's digits alone are those of the number without its sign. -/
theorem RNum.digits {w : World} {b : Bool} {A : Option Addr} {m c : Nat} {Z : Int} {L : Nat} (h : RNum w (.agg #[.bool b, .slice A m c]) Z L) : Num .u32 B16 w (.slice A m c) Z.natAbs m ∧ m ≤ L := by
  obtain ⟨b', A', m', c', X, e, h1, _, h2, h3, _⟩ := h
  cases e
  have : Z.natAbs = X := by
    rw [h3]
    cases b <;> simp
  rw [this]
  exact ⟨h1, h2⟩
theorem sgn_le {a b : Int} (h : a ≤ b) : sgn (a - b) ≤ 0 := by unfold sgn; repeat' split <;> omega
set_option maxHeartbeats 4000000 in
set_option maxRecDepth 100000 in
theorem filterNear_walk (ax ay bx b_y : Nat) (w : World) (h1 : ax < 18446744073709551616) (h2 : ay < 18446744073709551616) (h3 : bx < 18446744073709551616) (h4 : b_y < 18446744073709551616) :
    Calls Try.prog 4 #[.agg #[.int .u64 ax, .int .u64 ay], .agg #[.int .u64 bx, .int .u64 b_y]] w fun e w' => e = .returned (.bool true) ∧ Below w.heap.size w w' := by
  have ga := Lib.hid (good_calls ax ay h1 h2)
  have gb := Lib.hid (good_calls bx b_y h3 h4)
  have rq := Lib.hid (fun w => rsquare_calls ax ay bx b_y w h1 h2 h3 h4)
  clear h1 h2 h3 h4
  go_enter Try.func4, Try.ntmps4
  go_wp2_with fail
  refine (awake7_calls _).mono ?_
  rintro e w1 ⟨rfl, hb⟩
  have B1 : Hid (Below w.heap.size w w1) := Below.trans (((Below.refl _ w).alloc (Nat.le_refl _) _).alloc (by simp) _) (hb.mono (by simp; omega))
  have pa : Pt w1 w.heap.size ax ay := (Pt.past (Pt.at1 (by simp))).below hb
  have pb : Pt w1 (w.heap.size + 1) bx b_y := (Pt.at1 (by simp)).below hb
  clear hb
  obtain ⟨ca0, ca1⟩ := pa
  obtain ⟨cb0, cb1⟩ := pb
  go_wp2_with fail
  refine (far_calls ax ay bx b_y _).mono ?_
  rintro e w2 ⟨f, ok, rfl, h, hb⟩
  have H1 := Lib.hid h
  have B2 : Hid (Below w.heap.size w w2) := B1.out.trans (hb.mono B1.out.size)
  replace ca0 := cell_below hb ca0
  replace ca1 := cell_below hb ca1
  replace cb0 := cell_below hb cb0
  replace cb1 := cell_below hb cb1
  clear hb h B1
  cases ok with
  | false =>
    obtain rfl := H1.out.no
    have heq : (FloatKind.f64.format.order 0 0 == some .eq) = true := by decide +kernel
    clear rq H1 ga gb
    go_wp2_with fail
    go_ret
    exact ⟨rfl, B2.out⟩
  | true =>
    obtain ⟨⟨f1, f2, f3, f4⟩, ff, fl, hnear⟩ := far_near H1.out
    have nf := Lib.hid (num_calls f fl ff)
    have rb := run_bits f
    have fa := Lib.hid (show isFin ax ∧ isFin ay from ⟨f1, f2⟩)
    have fb := Lib.hid (show isFin bx ∧ isFin b_y from ⟨f3, f4⟩)
    have rq2 := Lib.hid (fun w => rq.out w f1 f2 f3 f4)
    clear rq H1 f1 f2 f3 f4 ff fl
    have hsq : 0 ≤ (val ax - val bx) * (val ax - val bx) + (val ay - val b_y) * (val ay - val b_y) := Int.add_nonneg (sq_nonneg _) (sq_nonneg _)
    generalize (val ax - val bx) * (val ax - val bx) + (val ay - val b_y) * (val ay - val b_y) = SQ at *
    obtain ⟨G, hG⟩ : ∃ G, G = val f * (K1074 : Int) := ⟨_, rfl⟩
    rw [← hG] at hnear
    have hG' := Lib.hid hG
    clear hG
    obtain ⟨z, hz⟩ : ∃ z, z = sgn (((G - SQ).natAbs : Int) * 1125899906842624 - SQ) := ⟨_, rfl⟩
    have hle : z ≤ 0 := by
      rw [hz]
      refine sgn_le ?_
      clear hz
      generalize G - SQ = D at *
      omega
    have hdle : decide (z ≤ 0) = true := by simpa using hle
    have hz' := Lib.hid hz
    clear hnear hsq hz
    go_wp2_with fail
    refine (ga.out _).mono ?_
    rintro e w3 ⟨b, rfl, hg, hb⟩
    obtain rfl := hg.2 fa.out
    have B3 : Hid (Below w.heap.size w w3) := B2.out.trans (hb.mono B2.out.size)
    replace ca0 := cell_below hb ca0
    replace ca1 := cell_below hb ca1
    replace cb0 := cell_below hb cb0
    replace cb1 := cell_below hb cb1
    clear hb hg B2 ga fa
    go_wp2_with fail
    refine (gb.out _).mono ?_
    rintro e w4 ⟨b, rfl, hg, hb⟩
    obtain rfl := hg.2 fb.out
    have B4 : Hid (Below w.heap.size w w4) := B3.out.trans (hb.mono B3.out.size)
    replace ca0 := cell_below hb ca0
    replace ca1 := cell_below hb ca1
    replace cb0 := cell_below hb cb0
    replace cb1 := cell_below hb cb1
    clear hb hg B3 gb fb
    go_wp2_with fail
    refine (rq2.out _).mono ?_
    rintro e w5 ⟨v5, rfl, hR, hb⟩
    obtain ⟨s1, A1, m1, c1, rfl⟩ := hR.form
    have B5 : Hid (Below w.heap.size w w5) := B4.out.trans (hb.mono B4.out.size)
    have X1 := Lib.hid hR
    clear hb hR B4 rq2 ca0 ca1 cb0 cb1
    go_wp2_with fail
    have hg1 : (w5.alloc (.cells #[.bool s1, .slice A1 m1 c1] 36)).heap[w5.heap.size]? = some (.cells #[.bool s1, .slice A1 m1 c1] 36 (0, 0)) := alloc_at rfl
    obtain ⟨x0, x1, _, _⟩ := kept_cells hg1
    have hba : Below w5.heap.size w5 (w5.alloc (.cells #[.bool s1, .slice A1 m1 c1] 36)) := (Below.refl _ _).alloc (Nat.le_refl _) _
    replace X1 := Lib.hid (X1.out.below hba)
    replace B5 : Hid (Below w.heap.size w _) := B5.out.trans (hba.mono B5.out.size)
    clear hg1 hba
    obtain ⟨g1, hg1⟩ : ∃ g1, g1 = w5.heap.size := ⟨_, rfl⟩
    rw [← hg1] at x0 x1 ⊢
    generalize w5.alloc (.cells #[.bool s1, .slice A1 m1 c1] 36) = W5 at *
    clear hg1
    refine (nf.out _).mono ?_
    rintro e w6 ⟨v6, rfl, hR, hb⟩
    replace x0 := cell_below hb x0
    replace x1 := cell_below hb x1
    replace X1 := Lib.hid (X1.out.below hb)
    have B6 : Hid (Below w.heap.size w w6) := B5.out.trans (hb.mono B5.out.size)
    obtain ⟨s2, A2, m2, c2, rfl⟩ := hR.form
    have X2 := Lib.hid hR
    clear hb hR B5 nf
    go_wp2_with fail
    refine (shl1074_calls _ _ _ _ X2.out (by omega)).mono ?_
    rintro e w7 ⟨v7, rfl, hR, hb⟩
    replace x0 := cell_below hb x0
    replace x1 := cell_below hb x1
    replace X1 := Lib.hid (X1.out.below hb)
    have B7 : Hid (Below w.heap.size w w7) := B6.out.trans (hb.mono B6.out.size)
    obtain ⟨s3, A3, m3, c3, rfl⟩ := hR.form
    rw [← hG'.out] at hR
    have X3 := Lib.hid hR
    clear hb hR B6 X2 hG'
    have x0a : ∀ o, (w7.alloc o).cell? ⟨g1, 0, none⟩ = some (.bool s1) := fun o => cell_below ((Below.refl _ _).alloc (Nat.le_refl _) o) x0
    have x1a : ∀ o, (w7.alloc o).cell? ⟨g1, 1, none⟩ = some (.slice A1 m1 c1) := fun o => cell_below ((Below.refl _ _).alloc (Nat.le_refl _) o) x1
    go_wp2_with fail
    have hba : Below w7.heap.size w7 (w7.alloc (.cells #[.bool s3, .slice A3 m3 c3] 36)) := (Below.refl _ _).alloc (Nat.le_refl _) _
    replace x0 := cell_below hba x0
    replace x1 := cell_below hba x1
    replace X1 := Lib.hid (X1.out.below hba)
    replace X3 := Lib.hid (X3.out.below hba)
    replace B7 : Hid (Below w.heap.size w _) := B7.out.trans (hba.mono B7.out.size)
    clear hba x0a x1a
    generalize w7.alloc (.cells #[.bool s3, .slice A3 m3 c3] 36) = W7 at *
    refine (subz_calls _ _ _ _ _ _ _ X3.out X1.out (by omega) (by omega)).mono ?_
    rintro e w8 ⟨v8, rfl, hR, hb⟩
    replace x0 := cell_below hb x0
    replace x1 := cell_below hb x1
    replace X1 := Lib.hid (X1.out.below hb)
    have B8 : Hid (Below w.heap.size w w8) := B7.out.trans (hb.mono B7.out.size)
    obtain ⟨s4, A4, m4, c4, rfl⟩ := hR.form
    have X4 := Lib.hid hR
    clear hb hR B7 X3
    go_wp2_with fail
    have hg1 : (w8.alloc (.cells #[.bool s4, .slice A4 m4 c4] 36)).heap[w8.heap.size]? = some (.cells #[.bool s4, .slice A4 m4 c4] 36 (0, 0)) := alloc_at rfl
    obtain ⟨y0, y1, _, _⟩ := kept_cells hg1
    have hba : Below w8.heap.size w8 (w8.alloc (.cells #[.bool s4, .slice A4 m4 c4] 36)) := (Below.refl _ _).alloc (Nat.le_refl _) _
    replace x0 := cell_below hba x0
    replace x1 := cell_below hba x1
    replace X1 := Lib.hid (X1.out.below hba)
    replace X4 := Lib.hid (X4.out.below hba)
    replace B8 : Hid (Below w.heap.size w _) := B8.out.trans (hba.mono B8.out.size)
    clear hg1 hba
    obtain ⟨g4, hg4⟩ : ∃ g4, g4 = w8.heap.size := ⟨_, rfl⟩
    rw [← hg4] at y0 y1 ⊢
    generalize w8.alloc (.cells #[.bool s4, .slice A4 m4 c4] 36) = W8 at *
    clear hg4
    refine wp_region_gives0 7 [IsV (.pointer (some ⟨g4, 1, none⟩)), IsV (.slice A4 m4 c4), IsR ((G - SQ).natAbs : Int) 304, IsR (((G - SQ).natAbs : Int) * 1125899906842624) 314, IsV (.agg #[.bool s1, .slice A1 m1 c1]), IsV (.int .i64 z), IsV (.bool true)]
      (by kernel_rfl) (by kernel_rfl) rfl ⟨pers_isV _, pers_isV _, pers_isR _ _, pers_isR _ _, pers_isV _, pers_isV _, pers_isV _, trivial⟩ ?_ ?_
    · simp only [List.take_succ_cons, List.take_zero, Obl0, putAll, Act.put, List.setIfInBounds_toArray, List.set_cons_zero, List.set_cons_succ, Nat.reduceAdd]
      refine ⟨?_, ?_, ?_, ?_, ?_, ?_, ?_, trivial⟩
      all_goals
        intro xs w' hE hf K hK
        simp only [factsOf, Region.binds, List.getElem?_cons_zero, List.getElem?_cons_succ, IsV, IsR, forall_const, true_and, and_true] at hf
      · go_simp
        exact hK.out _ _ rfl (Ext.refl _)
      · have c0 := cell_below hE y1
        simp only [hf] at hK ⊢
        go_simp
        exact hK.out _ _ rfl (Ext.refl _)
      · simp only [hf] at hK ⊢
        obtain ⟨hd, hm⟩ := (X4.out.below hE).digits
        have hm' := Lib.hid hm
        clear hm
        go_simp
        refine (new_calls false _ _ _ _ hd).mono ?_
        rintro e w1 ⟨v1, rfl, hR, hb⟩
        exact hK.out _ _ (hR.le hm'.out) hb
      · go_simp
        refine (shl50_calls _ _ _ _ hf.1 (by omega)).mono ?_
        rintro e w1 ⟨v1, rfl, hR, hb⟩
        exact hK.out _ _ hR hb
      · have c0 := cell_below hE x0
        have c1 := cell_below hE x1
        go_simp
        exact hK.out _ _ rfl (Ext.refl _)
      · obtain ⟨e1, e2, _⟩ := hf
        simp only [e2] at hK ⊢
        go_simp
        refine (cmps_calls _ _ _ _ _ _ _ e1 (X1.out.below hE) (by omega) (by omega)).mono ?_
        rintro e w1 ⟨rfl, hb⟩
        exact hK.out _ _ (by rw [hz'.out]; rfl) hb
      · simp only [hf] at hK ⊢
        go_simp
        exact hK.out _ _ rfl (Ext.refl _)
    simp only [List.drop_succ_cons, List.drop_zero, List.take_succ_cons, List.take_zero, putAll, Act.put, List.setIfInBounds_toArray, List.set_cons_zero, List.set_cons_succ, Nat.reduceAdd]
    intro xs w' hE hf
    simp only [factsAll, IsV, IsR, NewB, Nat.reduceAdd] at hf
    obtain ⟨e0, e1, R2, R3, e4, e5, e6, _⟩ := hf
    simp only [e0, e1, e4, e5, e6]
    have B9 : Hid (Below w.heap.size w w') := B8.out.trans (hE.mono B8.out.size)
    clear e0 e1 R2 R3 e4 e5 e6 hE B8 X1 X4 x0 x1 y0 y1
    go_wp2_with fail
    go_ret
    exact ⟨rfl, B9.out⟩
end Go.Proofs.Ytmkpeihcchdjcaa
