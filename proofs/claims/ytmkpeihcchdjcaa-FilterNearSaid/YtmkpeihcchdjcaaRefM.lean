/- The walk of outriggerref07's Square. -/
import Derived.Test.YtmkpeihcchdjcaaRefL
set_option linter.unusedVariables false
set_option linter.unusedSimpArgs false
namespace Go.Proofs.Ytmkpeihcchdjcaa
open Go.RowKit

set_option maxHeartbeats 4000000 in
set_option maxRecDepth 100000 in
theorem rsquare_calls (ax ay bx b_y : Nat) (w : World) (h1 : ax < 18446744073709551616) (h2 : ay < 18446744073709551616) (h3 : bx < 18446744073709551616) (h4 : b_y < 18446744073709551616)
    (f1 : isFin ax) (f2 : isFin ay) (f3 : isFin bx) (f4 : isFin b_y) :
    Calls Try.prog 15 #[.agg #[.int .u64 ax, .int .u64 ay], .agg #[.int .u64 bx, .int .u64 b_y]] w fun e w' => ∃ r, e = .returned r ∧ RNum w' r ((val ax - val bx) * (val ax - val bx) + (val ay - val b_y) * (val ay - val b_y)) 303 ∧ Below w.heap.size w w' := by
  have n1 := Lib.hid (num_calls ax h1 f1)
  have n2 := Lib.hid (num_calls ay h2 f2)
  have n3 := Lib.hid (num_calls bx h3 f3)
  have n4 := Lib.hid (num_calls b_y h4 f4)
  clear h1 h2 h3 h4 f1 f2 f3 f4
  go_enter Try.func15, Try.ntmps15
  go_wp2_with fail
  have B0 : Hid (Below w.heap.size w (((w.alloc (.cells #[.int .u64 ax, .int .u64 ay] 24)).alloc (.cells #[.int .u64 bx, .int .u64 b_y] 24)).alloc (.cells #[.bool false, .slice none 0 0] 36))) := (((Below.refl _ w).alloc (Nat.le_refl _) _).alloc (by simp) _).alloc (by simp; omega) _
  have pa : Pt (((w.alloc (.cells #[.int .u64 ax, .int .u64 ay] 24)).alloc (.cells #[.int .u64 bx, .int .u64 b_y] 24)).alloc (.cells #[.bool false, .slice none 0 0] 36)) w.heap.size ax ay := Pt.past (Pt.past (Pt.at1 (by simp)))
  have pb : Pt (((w.alloc (.cells #[.int .u64 ax, .int .u64 ay] 24)).alloc (.cells #[.int .u64 bx, .int .u64 b_y] 24)).alloc (.cells #[.bool false, .slice none 0 0] 36)) (w.heap.size + 1) bx b_y := Pt.past (Pt.at1 (by simp))
  have hres : (((w.alloc (.cells #[.int .u64 ax, .int .u64 ay] 24)).alloc (.cells #[.int .u64 bx, .int .u64 b_y] 24)).alloc (.cells #[.bool false, .slice none 0 0] 36)).heap[w.heap.size + 1 + 1]? = some (.cells #[.bool false, .slice none 0 0] 36 (0, 0)) := alloc_at (by simp)
  generalize (((w.alloc (.cells #[.int .u64 ax, .int .u64 ay] 24)).alloc (.cells #[.int .u64 bx, .int .u64 b_y] 24)).alloc (.cells #[.bool false, .slice none 0 0] 36)) = W at *
  have hlt : w.heap.size + 1 + 1 < W.heap.size := (Array.getElem?_eq_some_iff.1 hres).1
  have hres' := Lib.hid hres
  clear hres
  obtain ⟨pa0, pa1⟩ := pa
  obtain ⟨pb0, pb1⟩ := pb
  refine wp_region_gives0 8 [IsV (.pointer (some ⟨w.heap.size, 0, none⟩)), IsV (.int .u64 ax), IsR (val ax) 150, IsV (.pointer (some ⟨w.heap.size + 1, 0, none⟩)), IsV (.int .u64 bx), IsR (val bx) 150, IsR (val ax - val bx) 151, NewB W.heap.size 36 #[.bool false, .slice none 0 0]]
    (by kernel_rfl) (by kernel_rfl) rfl ⟨pers_isV _, pers_isV _, pers_isR _ _, pers_isV _, pers_isV _, pers_isR _ _, pers_isR _ _, pers_new _ _ _, trivial⟩ ?_ ?_
  · simp only [List.take_succ_cons, List.take_zero, Obl0, putAll, Act.put, List.setIfInBounds_toArray, List.set_cons_zero, List.set_cons_succ, Nat.reduceAdd]
    refine ⟨?_, ?_, ?_, ?_, ?_, ?_, ?_, ?_, trivial⟩
    all_goals
      intro xs w' hE hf K hK
      simp only [factsOf, Region.binds, List.getElem?_cons_zero, List.getElem?_cons_succ, IsV, IsR, forall_const, true_and, and_true] at hf
    · go_simp
      exact hK.out _ _ rfl (Ext.refl _)
    · have c0 := cell_below hE pa0
      simp only [hf] at hK ⊢
      go_simp
      exact hK.out _ _ rfl (Ext.refl _)
    · simp only [hf] at hK ⊢
      go_simp
      refine (n1.out _).mono ?_
      rintro e w1 ⟨v1, rfl, hR, hb⟩
      exact hK.out _ _ hR hb
    · go_simp
      exact hK.out _ _ rfl (Ext.refl _)
    · have c0 := cell_below hE pb0
      simp only [hf] at hK ⊢
      go_simp
      exact hK.out _ _ rfl (Ext.refl _)
    · obtain ⟨f1, f2⟩ := hf
      simp only [f1] at hK ⊢
      go_simp
      refine (n3.out _).mono ?_
      rintro e w1 ⟨v1, rfl, hR, hb⟩
      exact hK.out _ _ hR hb
    · obtain ⟨f1, f2, _⟩ := hf
      go_simp
      refine (subz_calls _ _ _ _ _ _ _ f1 f2 (by omega) (by omega)).mono ?_
      rintro e w1 ⟨v1, rfl, hR, hb⟩
      exact hK.out _ _ hR hb
    · go_simp
      exact hK.out _ _ ⟨_, rfl, hE.size, alloc_at rfl⟩ (Ext.alloc _ _)
  simp only [List.drop_succ_cons, List.drop_zero, List.take_succ_cons, List.take_zero, putAll, Act.put, List.setIfInBounds_toArray, List.set_cons_zero, List.set_cons_succ, Nat.reduceAdd]
  intro xs w' hE hf
  simp only [factsAll, IsV, IsR, NewB, Nat.reduceAdd] at hf
  obtain ⟨e0, e1, R2, e3, e4, R5, R6, ⟨g1, e7, hg, hblk⟩, _⟩ := hf
  obtain ⟨s1, A1, m1, c1, e6⟩ := R6.form
  simp only [e0, e1, e3, e4, e6, e7]
  rw [e6] at R6
  have hput := RNum.put hE hg hblk R6
  obtain ⟨k0, k1, k2, k3⟩ := kept_cells hblk
  have kr := kept_reads hblk (.bool s1) (.slice A1 m1 c1)
  have kw : ((w'.setCell ⟨g1, 0, none⟩ (.bool s1)).setCell ⟨g1, 1, none⟩ (.slice A1 m1 c1)).cell? ⟨g1, 0, none⟩ = some (.bool s1) := by
    rw [World.cell?_setCell_other _ _ _ _ (by simp)]
    exact kr.1
  have kw2 := kr.2
  clear hE hblk R2 R5 R6 e0 e1 e3 e4 e6 e7 kr
  obtain ⟨X1, hE⟩ := hput
  go_wp2_with fail
  clear k0 k1 k2 k3
  generalize (w'.setCell ⟨g1, 0, none⟩ (.bool s1)).setCell ⟨g1, 1, none⟩ (.slice A1 m1 c1) = W1 at *
  replace pa1 := cell_below hE pa1
  replace pb1 := cell_below hE pb1
  replace hres' := Lib.hid ((hE.block _ hlt).trans hres'.out)
  have hga : w.heap.size + 1 + 1 ≠ g1 := Nat.ne_of_lt (Nat.lt_of_lt_of_le hlt hg)
  replace hlt := Nat.lt_of_lt_of_le hlt hE.size
  replace B0 : Hid (Below w.heap.size w W1) := B0.out.trans (hE.mono B0.out.size)
  replace X1 := Lib.hid X1
  clear pa0 pb0 hE hg
  refine wp_region_gives0 8 [IsV (.pointer (some ⟨w.heap.size, 1, none⟩)), IsV (.int .u64 ay), IsR (val ay) 150, IsV (.pointer (some ⟨w.heap.size + 1, 1, none⟩)), IsV (.int .u64 b_y), IsR (val b_y) 150, IsR (val ay - val b_y) 151, NewB W1.heap.size 36 #[.bool false, .slice none 0 0]]
    (by kernel_rfl) (by kernel_rfl) rfl ⟨pers_isV _, pers_isV _, pers_isR _ _, pers_isV _, pers_isV _, pers_isR _ _, pers_isR _ _, pers_new _ _ _, trivial⟩ ?_ ?_
  · simp only [List.take_succ_cons, List.take_zero, Obl0, putAll, Act.put, List.setIfInBounds_toArray, List.set_cons_zero, List.set_cons_succ, Nat.reduceAdd]
    refine ⟨?_, ?_, ?_, ?_, ?_, ?_, ?_, ?_, trivial⟩
    all_goals
      intro xs w' hE hf K hK
      simp only [factsOf, Region.binds, List.getElem?_cons_zero, List.getElem?_cons_succ, IsV, IsR, forall_const, true_and, and_true] at hf
    · go_simp
      exact hK.out _ _ rfl (Ext.refl _)
    · have c0 := cell_below hE pa1
      simp only [hf] at hK ⊢
      go_simp
      exact hK.out _ _ rfl (Ext.refl _)
    · simp only [hf] at hK ⊢
      go_simp
      refine (n2.out _).mono ?_
      rintro e w1 ⟨v1, rfl, hR, hb⟩
      exact hK.out _ _ hR hb
    · go_simp
      exact hK.out _ _ rfl (Ext.refl _)
    · have c0 := cell_below hE pb1
      simp only [hf] at hK ⊢
      go_simp
      exact hK.out _ _ rfl (Ext.refl _)
    · obtain ⟨f1, f2⟩ := hf
      simp only [f1] at hK ⊢
      go_simp
      refine (n4.out _).mono ?_
      rintro e w1 ⟨v1, rfl, hR, hb⟩
      exact hK.out _ _ hR hb
    · obtain ⟨f1, f2, _⟩ := hf
      go_simp
      refine (subz_calls _ _ _ _ _ _ _ f1 f2 (by omega) (by omega)).mono ?_
      rintro e w1 ⟨v1, rfl, hR, hb⟩
      exact hK.out _ _ hR hb
    · go_simp
      exact hK.out _ _ ⟨_, rfl, hE.size, alloc_at rfl⟩ (Ext.alloc _ _)
  simp only [List.drop_succ_cons, List.drop_zero, List.take_succ_cons, List.take_zero, putAll, Act.put, List.setIfInBounds_toArray, List.set_cons_zero, List.set_cons_succ, Nat.reduceAdd]
  intro xs w' hE hf
  simp only [factsAll, IsV, IsR, NewB, Nat.reduceAdd] at hf
  obtain ⟨e0, e1, R2, e3, e4, R5, R6, ⟨g2, e7, hg, hblk⟩, _⟩ := hf
  obtain ⟨s2, A2, m2, c2, e6⟩ := R6.form
  simp only [e0, e1, e3, e4, e6, e7]
  rw [e6] at R6
  have hput := RNum.put hE hg hblk R6
  obtain ⟨k0, k1, k2, k3⟩ := kept_cells hblk
  have kr := kept_reads hblk (.bool s2) (.slice A2 m2 c2)
  have kv : ((w'.setCell ⟨g2, 0, none⟩ (.bool s2)).setCell ⟨g2, 1, none⟩ (.slice A2 m2 c2)).cell? ⟨g2, 0, none⟩ = some (.bool s2) := by
    rw [World.cell?_setCell_other _ _ _ _ (by simp)]
    exact kr.1
  have kv2 := kr.2
  clear hE hblk R2 R5 R6 e0 e1 e3 e4 e6 e7 kr
  obtain ⟨X2, hE⟩ := hput
  go_wp2_with fail
  clear k0 k1 k2 k3
  generalize (w'.setCell ⟨g2, 0, none⟩ (.bool s2)).setCell ⟨g2, 1, none⟩ (.slice A2 m2 c2) = W2 at *
  replace kw := cell_below hE kw
  replace kw2 := cell_below hE kw2
  replace hres' := Lib.hid ((hE.block _ hlt).trans hres'.out)
  replace hlt := Nat.lt_of_lt_of_le hlt hE.size
  replace B0 : Hid (Below w.heap.size w W2) := B0.out.trans (hE.mono B0.out.size)
  replace X1 := Lib.hid (X1.out.below hE)
  replace X2 := Lib.hid X2
  clear pa1 pb1 hE hg
  refine wp_region_gives0 7 [IsV (.agg #[.bool s1, .slice A1 m1 c1]), IsV (.agg #[.bool s1, .slice A1 m1 c1]), IsR ((val ax - val bx) * (val ax - val bx)) 302, IsV (.agg #[.bool s2, .slice A2 m2 c2]), IsV (.agg #[.bool s2, .slice A2 m2 c2]), IsR ((val ay - val b_y) * (val ay - val b_y)) 302, IsR ((val ax - val bx) * (val ax - val bx) + (val ay - val b_y) * (val ay - val b_y)) 303]
    (by kernel_rfl) (by kernel_rfl) rfl ⟨pers_isV _, pers_isV _, pers_isR _ _, pers_isV _, pers_isV _, pers_isR _ _, pers_isR _ _, trivial⟩ ?_ ?_
  · simp only [List.take_succ_cons, List.take_zero, Obl0, putAll, Act.put, List.setIfInBounds_toArray, List.set_cons_zero, List.set_cons_succ, Nat.reduceAdd]
    refine ⟨?_, ?_, ?_, ?_, ?_, ?_, ?_, trivial⟩
    all_goals
      intro xs w' hE hf K hK
      simp only [factsOf, Region.binds, List.getElem?_cons_zero, List.getElem?_cons_succ, IsV, IsR, forall_const, true_and, and_true] at hf
    iterate 2
      · have c0 := cell_below hE kw
        have c1 := cell_below hE kw2
        go_simp
        exact hK.out _ _ rfl (Ext.refl _)
    · obtain ⟨f1, f2⟩ := hf
      simp only [f1, f2] at hK ⊢
      go_simp
      refine (mulz_calls _ _ _ _ _ _ _ (X1.out.below hE) (X1.out.below hE) (by omega) (by omega)).mono ?_
      rintro e w1 ⟨v1, rfl, hR, hb⟩
      exact hK.out _ _ hR hb
    iterate 2
      · have c0 := cell_below hE kv
        have c1 := cell_below hE kv2
        go_simp
        exact hK.out _ _ rfl (Ext.refl _)
    · obtain ⟨f1, f2, _⟩ := hf
      simp only [f1, f2] at hK ⊢
      go_simp
      refine (mulz_calls _ _ _ _ _ _ _ (X2.out.below hE) (X2.out.below hE) (by omega) (by omega)).mono ?_
      rintro e w1 ⟨v1, rfl, hR, hb⟩
      exact hK.out _ _ hR hb
    · obtain ⟨f1, f2, _⟩ := hf
      go_simp
      refine (addz_calls _ _ _ _ _ _ _ f1 f2 (by omega) (by omega)).mono ?_
      rintro e w1 ⟨v1, rfl, hR, hb⟩
      exact hK.out _ _ hR hb
  simp only [List.drop_succ_cons, List.drop_zero, List.take_succ_cons, List.take_zero, putAll, Act.put, List.setIfInBounds_toArray, List.set_cons_zero, List.set_cons_succ, Nat.reduceAdd]
  intro xs w' hE hf
  simp only [factsAll, IsV, IsR, NewB, Nat.reduceAdd] at hf
  obtain ⟨e0, e1, R2, e3, e4, R5, R6, _⟩ := hf
  obtain ⟨s3, A3, m3, c3, e6⟩ := R6.form
  simp only [e0, e1, e3, e4, e6]
  rw [e6] at R6
  have hblk := (hE.block _ hlt).trans hres'.out
  have hput := Lib.hid (RNum.put (B0.out.trans (hE.mono B0.out.size)) (by omega) hblk R6)
  obtain ⟨k0, k1, k2, k3⟩ := kept_cells hblk
  have kr := Lib.hid (kept_reads hblk (.bool s3) (.slice A3 m3 c3))
  clear hE hblk R2 R5 R6 e0 e1 e3 e4 e6 kw kw2 kv kv2 X1 X2 hres' B0
  go_wp2_with fail
  obtain ⟨q0, q1⟩ := kr.out
  refine bodyPost_ret (v := .agg #[.bool s3, .slice A3 m3 c3]) (by simp [results, Try.results15, go_sem, q0, q1]) rfl ?_
  exact ⟨_, rfl, hput.out.1, hput.out.2⟩
end Go.Proofs.Ytmkpeihcchdjcaa
