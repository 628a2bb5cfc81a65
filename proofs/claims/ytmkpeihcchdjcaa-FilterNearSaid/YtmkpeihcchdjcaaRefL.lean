/- The walk of outriggerref07's Turn. -/
import Derived.Test.YtmkpeihcchdjcaaRefK
import Derived.Test.YtmkpeihcchdjcaaFltE
import Derived.Test.YtmkpeihcchdjcaaReg
set_option linter.unusedVariables false
set_option linter.unusedSimpArgs false
namespace Go.Proofs.Ytmkpeihcchdjcaa
open Go.RowKit

/-- A number with a sign, as what is known of a value. -/
def IsR (Z : Int) (L : Nat) : Value → World → Prop := fun v w => RNum w v Z L
theorem pers_isR (Z : Int) (L : Nat) : Pers (IsR Z L) := fun v w w' h hE => RNum.below h hE

theorem cmps_calls (v u : Value) (Za Zb : Int) (La Lb : Nat) (w : World) (h : RNum w v Za La) (k : RNum w u Zb Lb) (hLa : La ≤ 20000) (hLb : Lb ≤ 20000) :
    Calls Try.prog 20 #[v, u] w fun e w' => e = .returned (.int .i64 (sgn (Za - Zb))) ∧ Below w.heap.size w w' := cmpz_calls v u Za Zb La Lb w h k hLa hLb
set_option maxHeartbeats 4000000 in
set_option maxRecDepth 100000 in
theorem rturn_calls (ax ay bx b_y cx cy : Nat) (w : World) (h1 : ax < 18446744073709551616) (h2 : ay < 18446744073709551616) (h3 : bx < 18446744073709551616) (h4 : b_y < 18446744073709551616) (h5 : cx < 18446744073709551616) (h6 : cy < 18446744073709551616)
    (f1 : isFin ax) (f2 : isFin ay) (f3 : isFin bx) (f4 : isFin b_y) (f5 : isFin cx) (f6 : isFin cy) :
    Calls Try.prog 13 #[.agg #[.int .u64 ax, .int .u64 ay], .agg #[.int .u64 bx, .int .u64 b_y], .agg #[.int .u64 cx, .int .u64 cy]] w fun e w' => e = .returned (.int .i64 (sgn ((val ax - val cx) * (val b_y - val cy) - (val ay - val cy) * (val bx - val cx)))) ∧ Below w.heap.size w w' := by
  have n1 := Lib.hid (num_calls ax h1 f1)
  have n2 := Lib.hid (num_calls ay h2 f2)
  have n3 := Lib.hid (num_calls bx h3 f3)
  have n4 := Lib.hid (num_calls b_y h4 f4)
  have n5 := Lib.hid (num_calls cx h5 f5)
  have n6 := Lib.hid (num_calls cy h6 f6)
  clear h1 h2 h3 h4 h5 h6 f1 f2 f3 f4 f5 f6
  go_enter Try.func13, Try.ntmps13
  go_wp2_with fail
  have B0 : Hid (Below w.heap.size w (((w.alloc (.cells #[.int .u64 ax, .int .u64 ay] 24)).alloc (.cells #[.int .u64 bx, .int .u64 b_y] 24)).alloc (.cells #[.int .u64 cx, .int .u64 cy] 24))) := (((Below.refl _ w).alloc (Nat.le_refl _) _).alloc (by simp) _).alloc (by simp; omega) _
  have pa : Pt (((w.alloc (.cells #[.int .u64 ax, .int .u64 ay] 24)).alloc (.cells #[.int .u64 bx, .int .u64 b_y] 24)).alloc (.cells #[.int .u64 cx, .int .u64 cy] 24)) w.heap.size ax ay := Pt.past (Pt.past (Pt.at1 (by simp)))
  have pb : Pt (((w.alloc (.cells #[.int .u64 ax, .int .u64 ay] 24)).alloc (.cells #[.int .u64 bx, .int .u64 b_y] 24)).alloc (.cells #[.int .u64 cx, .int .u64 cy] 24)) (w.heap.size + 1) bx b_y := Pt.past (Pt.at1 (by simp))
  have pc : Pt (((w.alloc (.cells #[.int .u64 ax, .int .u64 ay] 24)).alloc (.cells #[.int .u64 bx, .int .u64 b_y] 24)).alloc (.cells #[.int .u64 cx, .int .u64 cy] 24)) (w.heap.size + 1 + 1) cx cy := Pt.at1 (by simp)
  generalize (((w.alloc (.cells #[.int .u64 ax, .int .u64 ay] 24)).alloc (.cells #[.int .u64 bx, .int .u64 b_y] 24)).alloc (.cells #[.int .u64 cx, .int .u64 cy] 24)) = W at *
  refine (n5.out W).mono ?_
  rintro e w1 ⟨v1, rfl, hR, hb⟩
  obtain ⟨s1, A1, m1, c1, rfl⟩ := hR.form
  replace pa := pa.below hb
  replace pb := pb.below hb
  have cy1 := (pc.below hb).2
  have cy2 : ∀ o, (w1.alloc o).cell? ⟨w.heap.size + 1 + 1, 1, none⟩ = some (.int .u64 cy) := fun o => cell_below ((Below.refl _ _).alloc (Nat.le_refl _) o) cy1
  replace B0 : Hid (Below w.heap.size w w1) := B0.out.trans (hb.mono B0.out.size)
  have X1 := Lib.hid hR
  clear hb hR pc W
  go_wp2_with fail
  have hg1 : (w1.alloc (.cells #[.bool s1, .slice A1 m1 c1] 36)).heap[w1.heap.size]? = some (.cells #[.bool s1, .slice A1 m1 c1] 36 (0, 0)) := alloc_at rfl
  obtain ⟨x0, x1, _, _⟩ := kept_cells hg1
  have hba : Below w1.heap.size w1 (w1.alloc (.cells #[.bool s1, .slice A1 m1 c1] 36)) := (Below.refl _ _).alloc (Nat.le_refl _) _
  replace pa := pa.below hba
  replace pb := pb.below hba
  replace X1 := Lib.hid (X1.out.below hba)
  replace B0 : Hid (Below w.heap.size w _) := B0.out.trans (hba.mono B0.out.size)
  clear hg1 hba
  obtain ⟨g1, hg1⟩ : ∃ g1, g1 = w1.heap.size := ⟨_, rfl⟩
  rw [← hg1] at x0 x1 ⊢
  generalize w1.alloc (.cells #[.bool s1, .slice A1 m1 c1] 36) = W1 at *
  clear cy1 cy2 hg1
  refine (n6.out W1).mono ?_
  rintro e w2 ⟨v2, rfl, hR, hb⟩
  obtain ⟨s2, A2, m2, c2, rfl⟩ := hR.form
  replace pa := pa.below hb
  replace pb := pb.below hb
  replace x0 := cell_below hb x0
  replace x1 := cell_below hb x1
  replace X1 := Lib.hid (X1.out.below hb)
  replace B0 : Hid (Below w.heap.size w w2) := B0.out.trans (hb.mono B0.out.size)
  have X2 := Lib.hid hR
  clear hb hR
  go_wp2_with fail
  have hg1 : (w2.alloc (.cells #[.bool s2, .slice A2 m2 c2] 36)).heap[w2.heap.size]? = some (.cells #[.bool s2, .slice A2 m2 c2] 36 (0, 0)) := alloc_at rfl
  obtain ⟨y0, y1, _, _⟩ := kept_cells hg1
  have hba : Below w2.heap.size w2 (w2.alloc (.cells #[.bool s2, .slice A2 m2 c2] 36)) := (Below.refl _ _).alloc (Nat.le_refl _) _
  obtain ⟨pa0, pa1⟩ := pa.below hba
  obtain ⟨pb0, pb1⟩ := pb.below hba
  replace X1 := Lib.hid (X1.out.below hba)
  replace X2 := Lib.hid (X2.out.below hba)
  replace B0 : Hid (Below w.heap.size w _) := B0.out.trans (hba.mono B0.out.size)
  replace x0 := cell_below hba x0
  replace x1 := cell_below hba x1
  clear hg1 hba pa pb
  obtain ⟨g2, hg2⟩ : ∃ g2, g2 = w2.heap.size := ⟨_, rfl⟩
  rw [← hg2] at y0 y1 ⊢
  generalize w2.alloc (.cells #[.bool s2, .slice A2 m2 c2] 36) = W2 at *
  clear hg2
  refine wp_region_gives0 12 [IsV (.pointer (some ⟨w.heap.size, 0, none⟩)), IsV (.int .u64 ax), IsR (val ax) 150, IsV (.agg #[.bool s1, .slice A1 m1 c1]), IsR (val ax - val cx) 151, IsV (.pointer (some ⟨w.heap.size + 1, 1, none⟩)), IsV (.int .u64 b_y), IsR (val b_y) 150, IsV (.agg #[.bool s2, .slice A2 m2 c2]), IsR (val b_y - val cy) 151, IsR ((val ax - val cx) * (val b_y - val cy)) 302, NewB W2.heap.size 36 #[.bool false, .slice none 0 0]]
    (by kernel_rfl) (by kernel_rfl) rfl ⟨pers_isV _, pers_isV _, pers_isR _ _, pers_isV _, pers_isR _ _, pers_isV _, pers_isV _, pers_isR _ _, pers_isV _, pers_isR _ _, pers_isR _ _, pers_new _ _ _, trivial⟩ ?_ ?_
  · simp only [List.take_succ_cons, List.take_zero, Obl0, putAll, Act.put, List.setIfInBounds_toArray, List.set_cons_zero, List.set_cons_succ, Nat.reduceAdd]
    refine ⟨?_, ?_, ?_, ?_, ?_, ?_, ?_, ?_, ?_, ?_, ?_, ?_, trivial⟩
    all_goals
      intro xs w' hE hf K hK
      simp only [factsOf, Region.binds, List.getElem?_cons_zero, List.getElem?_cons_succ, IsV, IsR, forall_const, true_and, and_true] at hf
    · go_simp
      exact hK.out _ _ rfl (Ext.refl _)
    · have c0 := cell_below hE pa0
      simp only [hf] at hK ⊢
      go_simp
      exact hK.out _ _ rfl (Ext.refl _)
    · simp only [hf] at hK ⊢
      go_simp
      refine (n1.out _).mono ?_
      rintro e w1 ⟨v1, rfl, hR, hb⟩
      exact hK.out _ _ hR hb
    · have c0 := cell_below hE x0
      have c1 := cell_below hE x1
      go_simp
      exact hK.out _ _ rfl (Ext.refl _)
    · obtain ⟨f1, f2, _⟩ := hf
      simp only [f2] at hK ⊢
      have f3 := X1.out.below hE
      clear X1 X2
      go_simp
      refine (subz_calls _ _ _ _ _ _ _ f1 f3 (by omega) (by omega)).mono ?_
      rintro e w1 ⟨v1, rfl, hR, hb⟩
      exact hK.out _ _ hR hb
    · go_simp
      exact hK.out _ _ rfl (Ext.refl _)
    · have c0 := cell_below hE pb1
      simp only [hf] at hK ⊢
      go_simp
      exact hK.out _ _ rfl (Ext.refl _)
    · obtain ⟨f1, f2⟩ := hf
      simp only [f1] at hK ⊢
      go_simp
      refine (n4.out _).mono ?_
      rintro e w1 ⟨v1, rfl, hR, hb⟩
      exact hK.out _ _ hR hb
    · have c0 := cell_below hE y0
      have c1 := cell_below hE y1
      go_simp
      exact hK.out _ _ rfl (Ext.refl _)
    · obtain ⟨f1, f2, _⟩ := hf
      simp only [f2] at hK ⊢
      have f3 := X2.out.below hE
      clear X1 X2
      go_simp
      refine (subz_calls _ _ _ _ _ _ _ f1 f3 (by omega) (by omega)).mono ?_
      rintro e w1 ⟨v1, rfl, hR, hb⟩
      exact hK.out _ _ hR hb
    · obtain ⟨f1, f2, _⟩ := hf
      go_simp
      refine (mulz_calls _ _ _ _ _ _ _ f1 f2 (by omega) (by omega)).mono ?_
      rintro e w1 ⟨v1, rfl, hR, hb⟩
      exact hK.out _ _ hR hb
    · go_simp
      exact hK.out _ _ ⟨_, rfl, hE.size, alloc_at rfl⟩ (Ext.alloc _ _)
  · simp only [List.drop_succ_cons, List.drop_zero, List.take_succ_cons, List.take_zero, putAll, Act.put, List.setIfInBounds_toArray, List.set_cons_zero, List.set_cons_succ, Nat.reduceAdd]
    intro xs w' hE hf
    simp only [factsAll, IsV, IsR, NewB, Nat.reduceAdd] at hf
    obtain ⟨e0, e1, R2, e3, R4, e5, e6, R7, e8, R9, R10, ⟨g3, e11, hg3, hblk⟩, _⟩ := hf
    obtain ⟨s3, A3, m3, c3, e10⟩ := R10.form
    simp only [e0, e1, e3, e5, e6, e8, e10, e11]
    rw [e10] at R10
    have hput := RNum.put hE hg3 hblk R10
    obtain ⟨k0, k1, k2, k3⟩ := kept_cells hblk
    have kr := kept_reads hblk (.bool s3) (.slice A3 m3 c3)
    have kw : ((w'.setCell ⟨g3, 0, none⟩ (.bool s3)).setCell ⟨g3, 1, none⟩ (.slice A3 m3 c3)).cell? ⟨g3, 0, none⟩ = some (.bool s3) := by
      rw [World.cell?_setCell_other _ _ _ _ (by simp)]
      exact kr.1
    have kw2 := kr.2
    clear hE hblk R10 R2 R4 R7 R9 e0 e1 e3 e5 e6 e8 e10 e11 kr
    obtain ⟨R10, hE⟩ := hput
    go_wp2_with fail
    clear k0 k1 k2 k3
    generalize (w'.setCell ⟨g3, 0, none⟩ (.bool s3)).setCell ⟨g3, 1, none⟩ (.slice A3 m3 c3) = W3 at *
    replace pa1 := cell_below hE pa1
    replace pb0 := cell_below hE pb0
    replace x0 := cell_below hE x0
    replace x1 := cell_below hE x1
    replace y0 := cell_below hE y0
    replace y1 := cell_below hE y1
    replace X1 := Lib.hid (X1.out.below hE)
    replace X2 := Lib.hid (X2.out.below hE)
    replace B0 : Hid (Below w.heap.size w W3) := B0.out.trans (hE.mono B0.out.size)
    clear pa0 pb1 hE hg3
    refine wp_region_gives0 12 [IsV (.pointer (some ⟨w.heap.size, 1, none⟩)), IsV (.int .u64 ay), IsR (val ay) 150, IsV (.agg #[.bool s2, .slice A2 m2 c2]), IsR (val ay - val cy) 151, IsV (.pointer (some ⟨w.heap.size + 1, 0, none⟩)), IsV (.int .u64 bx), IsR (val bx) 150, IsV (.agg #[.bool s1, .slice A1 m1 c1]), IsR (val bx - val cx) 151, IsR ((val ay - val cy) * (val bx - val cx)) 302, NewB W3.heap.size 36 #[.bool false, .slice none 0 0]]
      (by kernel_rfl) (by kernel_rfl) rfl ⟨pers_isV _, pers_isV _, pers_isR _ _, pers_isV _, pers_isR _ _, pers_isV _, pers_isV _, pers_isR _ _, pers_isV _, pers_isR _ _, pers_isR _ _, pers_new _ _ _, trivial⟩ ?_ ?_
    · simp only [List.take_succ_cons, List.take_zero, Obl0, putAll, Act.put, List.setIfInBounds_toArray, List.set_cons_zero, List.set_cons_succ, Nat.reduceAdd]
      refine ⟨?_, ?_, ?_, ?_, ?_, ?_, ?_, ?_, ?_, ?_, ?_, ?_, trivial⟩
      all_goals
        intro xs w' hF hf K hK
        simp only [factsOf, Region.binds, List.getElem?_cons_zero, List.getElem?_cons_succ, IsV, IsR, forall_const, true_and, and_true] at hf
      · go_simp
        exact hK.out _ _ rfl (Ext.refl _)
      · have c0 := cell_below hF pa1
        simp only [hf] at hK ⊢
        go_simp
        exact hK.out _ _ rfl (Ext.refl _)
      · simp only [hf] at hK ⊢
        go_simp
        refine (n2.out _).mono ?_
        rintro e w1 ⟨v1, rfl, hR, hb⟩
        exact hK.out _ _ hR hb
      · have c0 := cell_below hF y0
        have c1 := cell_below hF y1
        go_simp
        exact hK.out _ _ rfl (Ext.refl _)
      · obtain ⟨f1, f2, _⟩ := hf
        simp only [f2] at hK ⊢
        have f3 := X2.out.below hF
        clear X1 X2
        go_simp
        refine (subz_calls _ _ _ _ _ _ _ f1 f3 (by omega) (by omega)).mono ?_
        rintro e w1 ⟨v1, rfl, hR, hb⟩
        exact hK.out _ _ hR hb
      · go_simp
        exact hK.out _ _ rfl (Ext.refl _)
      · have c0 := cell_below hF pb0
        simp only [hf] at hK ⊢
        go_simp
        exact hK.out _ _ rfl (Ext.refl _)
      · obtain ⟨f1, f2⟩ := hf
        simp only [f1] at hK ⊢
        go_simp
        refine (n3.out _).mono ?_
        rintro e w1 ⟨v1, rfl, hR, hb⟩
        exact hK.out _ _ hR hb
      · have c0 := cell_below hF x0
        have c1 := cell_below hF x1
        go_simp
        exact hK.out _ _ rfl (Ext.refl _)
      · obtain ⟨f1, f2, _⟩ := hf
        simp only [f2] at hK ⊢
        have f3 := X1.out.below hF
        clear X1 X2
        go_simp
        refine (subz_calls _ _ _ _ _ _ _ f1 f3 (by omega) (by omega)).mono ?_
        rintro e w1 ⟨v1, rfl, hR, hb⟩
        exact hK.out _ _ hR hb
      · obtain ⟨f1, f2, _⟩ := hf
        go_simp
        refine (mulz_calls _ _ _ _ _ _ _ f1 f2 (by omega) (by omega)).mono ?_
        rintro e w1 ⟨v1, rfl, hR, hb⟩
        exact hK.out _ _ hR hb
      · go_simp
        exact hK.out _ _ ⟨_, rfl, hF.size, alloc_at rfl⟩ (Ext.alloc _ _)
    · simp only [List.drop_succ_cons, List.drop_zero, List.take_succ_cons, List.take_zero, putAll, Act.put, List.setIfInBounds_toArray, List.set_cons_zero, List.set_cons_succ, Nat.reduceAdd]
      intro xs w' hF hf
      simp only [factsAll, IsV, IsR, NewB, Nat.reduceAdd] at hf
      obtain ⟨e0, e1, R2, e3, R4, e5, e6, R7, e8, R9, S10, ⟨g4, e11, hg3, hblk⟩, _⟩ := hf
      obtain ⟨s4, A4, m4, c4, e10⟩ := S10.form
      simp only [e0, e1, e3, e5, e6, e8, e10, e11]
      rw [e10] at S10
      have hne : g4 ≠ g3 := Nat.ne_of_gt (Nat.lt_of_lt_of_le (World.block_lt_of_cell? _ _ kw) hg3)
      have z0 : (w'.setCell ⟨g4, 0, none⟩ (.bool s4)).cell? ⟨g3, 0, none⟩ = some (.bool s3) := by rw [World.cell?_setCell_far _ _ _ _ hne]; exact cell_below hF kw
      have z1 := put_far (u := .bool s4) (v := .slice A4 m4 c4) (cell_below hF kw2) hne
      clear hne
      have hput := RNum.put hF hg3 hblk S10
      obtain ⟨k0, k1, k2, k3⟩ := kept_cells hblk
      have kr := kept_reads hblk (.bool s4) (.slice A4 m4 c4)
      have kv : ((w'.setCell ⟨g4, 0, none⟩ (.bool s4)).setCell ⟨g4, 1, none⟩ (.slice A4 m4 c4)).cell? ⟨g4, 0, none⟩ = some (.bool s4) := by
        rw [World.cell?_setCell_other _ _ _ _ (by simp)]
        exact kr.1
      have kv2 := kr.2
      clear hF hblk S10 R2 R4 R7 R9 e0 e1 e3 e5 e6 e8 e10 e11 kr
      obtain ⟨S10, hF⟩ := hput
      have R11 := Lib.hid (R10.below hF)
      have S11 := Lib.hid S10
      have B1 : Hid (Below w.heap.size w _) := B0.out.trans (hF.mono B0.out.size)
      clear R10 S10 hF B0 X1 X2 pa1 pb0 x0 x1 y0 y1 hg3 kw kw2
      go_wp2_with fail

      refine (cmps_calls _ _ _ _ _ _ _ R11.out S11.out (by omega) (by omega)).mono ?_
      rintro e w5 ⟨rfl, hb⟩
      go_wp2_with fail
      go_ret
      exact ⟨rfl, B1.out.trans (hb.mono B1.out.size)⟩
end Go.Proofs.Ytmkpeihcchdjcaa
