/- The walks of outriggerref02's From, To, Same. -/
import Derived.Test.YtmobnjlbbhhedaaGreatDoorRefFa
import Derived.Test.YtmobnjlbbhhedaaGreatDoorRefB
import Derived.Test.YtmobnjlbbhhedaaGreatDoorDec
set_option linter.unusedVariables false
set_option linter.unusedSimpArgs false
namespace Go.Proofs.YtmobnjlbbhhedaaGreatDoor
open Go.RowKit

theorem agg_cells {w w' : World} {x y : Value} {t t' : TypeId} {z u : Value} (hE : Ext ((w.alloc (.cells #[x, y] t)).alloc (.cells #[z, u] t')) w') :
    w'.cell? ⟨w.heap.size, 0, none⟩ = some x ∧ w'.cell? ⟨w.heap.size, 1, none⟩ = some y := by
  have hb : w'.heap[w.heap.size]? = some (.cells #[x, y] t (0, 0)) := (hE.block _ (by simp; omega)).trans ((((Below.refl (w.heap.size + 1) _).alloc (by simp) _).block _ (by omega)).trans (alloc_at rfl))
  constructor <;> simp [World.cell?, hb]
set_option maxRecDepth 100000 in
theorem from_calls (s : Bool) (A : Option Addr) (n c X : Nat) (w : World) (h : Num .u64 B64 w (.slice A n c) X n) (hn : n ≤ 5000) :
    Calls Tryz.prog 11 #[.agg #[.bool s, .slice A n c]] w fun e w' => ∃ v, e = .returned v ∧ RNum w' v (sgn s X) (4 * n) ∧ Below w.heap.size w w' := by
  have H := Lib.hid h
  clear h
  go_enter Tryz.func11, Tryz.ntmps11
  go_wp2_with fail
  have B0 : Below w.heap.size w ((w.alloc (.cells #[.bool s, .slice A n c] 24)).alloc (.cells #[.bool false, .slice none 0 0] 36)) := ((Below.refl _ w).alloc (Nat.le_refl _) _).alloc (by simp) _
  have hblk0 : ((w.alloc (.cells #[.bool s, .slice A n c] 24)).alloc (.cells #[.bool false, .slice none 0 0] 36)).heap[w.heap.size + 1]? = some (.cells #[.bool false, .slice none 0 0] 36 (0, 0)) := alloc_at (by simp)
  have HH := H.out.below B0
  refine wp_region_gives0 6 [IsV (.pointer (some ⟨w.heap.size, 0, none⟩)), IsV (.bool s), IsV (.pointer (some ⟨w.heap.size, 1, none⟩)), IsV (.slice A n c), IsN .u32 B16 X (4 * n), IsR (sgn s X) (4 * n)]
    (by kernel_rfl) (by kernel_rfl) rfl ⟨pers_isV _, pers_isV _, pers_isV _, pers_isV _, pers_isN _ _ _ _, pers_isR _ _, trivial⟩ ?_ ?_
  · simp only [List.take_succ_cons, List.take_zero, Obl0, putAll, Act.put, List.setIfInBounds_toArray, List.set_cons_zero, List.set_cons_succ, Nat.reduceAdd]
    refine ⟨?_, ?_, ?_, ?_, ?_, ?_, trivial⟩
    all_goals
      intro xs w' hE hf K hK
      obtain ⟨c0, c1⟩ := agg_cells hE
      simp only [factsOf, Region.binds, List.getElem?_cons_zero, List.getElem?_cons_succ, IsV, forall_const, true_and, and_true] at hf
    · go_simp
      exact hK.out _ _ rfl (Ext.refl _)
    · simp only [hf] at hK ⊢
      go_simp
      exact hK.out _ _ rfl (Ext.refl _)
    · go_simp
      exact hK.out _ _ rfl (Ext.refl _)
    · simp only [hf] at hK ⊢
      go_simp
      exact hK.out _ _ rfl (Ext.refl _)
    · simp only [hf] at hK ⊢
      go_simp
      refine (digits_calls _ X n _ (HH.below hE) (by omega)).mono ?_
      rintro e w1 ⟨D, m, d, rfl, h1, h2, h3, hb⟩
      exact hK.out _ _ ⟨D, m, d, rfl, h1, h2, h3⟩ hb
    · obtain ⟨f1, ⟨D, m, d, f2, h1, h2, h3⟩, _⟩ := hf
      simp only [f1, f2] at hK ⊢
      go_simp
      refine (new_calls s _ X m _ h1).mono ?_
      rintro e w1 ⟨v1, rfl, hR, hb⟩
      exact hK.out _ _ (hR.le h3) hb
  simp only [List.drop_succ_cons, List.drop_zero, List.take_succ_cons, List.take_zero, putAll, Act.put, List.setIfInBounds_toArray, List.set_cons_zero, List.set_cons_succ, Nat.reduceAdd]
  intro xs w' hE hf
  simp only [factsAll, IsV, IsR, IsN, Nat.reduceAdd] at hf
  obtain ⟨e0, e1, e2, e3, hN, R5, _⟩ := hf
  obtain ⟨s1, A1, m1, c1, e5⟩ := R5.form
  simp only [e0, e1, e2, e3, e5]
  rw [e5] at R5
  have hblk := (hE.block _ (by simp)).trans hblk0
  have hput := RNum.put (B0.trans (hE.mono B0.size)) (by omega) hblk R5
  obtain ⟨k0, k1, k2, k3⟩ := kept_cells hblk
  have kr := kept_reads hblk (.bool s1) (.slice A1 m1 c1)
  obtain ⟨q0, q1⟩ := kr
  clear hE hblk R5 e0 e1 e2 e3 e5 hN B0 hblk0 HH
  go_wp2_with fail
  refine bodyPost_ret (v := .agg #[.bool s1, .slice A1 m1 c1]) (by simp [results, Tryz.results11, go_sem, q0, q1]) rfl ?_
  exact ⟨_, rfl, hput.1, hput.2⟩
set_option maxRecDepth 100000 in
theorem to_calls (s : Bool) (A : Option Addr) (n c X : Nat) (w : World) (h : Num .u32 B16 w (.slice A n c) X n) (hl : IsLen B16 X n) (hn : n ≤ 40000) :
    Calls Tryz.prog 14 #[.agg #[.bool s, .slice A n c]] w fun e w' => ∃ A t c, e = .returned (.agg #[.bool s, .slice A t c]) ∧ Num .u64 B64 w' (.slice A t c) X t ∧ IsLen B64 X t ∧ Below w.heap.size w w' := by
  have H := Lib.hid h
  have HL := Lib.hid hl
  clear h hl
  go_enter Tryz.func14, Tryz.ntmps14
  go_wp2_with fail
  have B0 : Below w.heap.size w ((w.alloc (.cells #[.bool s, .slice A n c] 36)).alloc (.cells #[.bool false, .slice none 0 0] 24)) := ((Below.refl _ w).alloc (Nat.le_refl _) _).alloc (by simp) _
  have hblk0 : ((w.alloc (.cells #[.bool s, .slice A n c] 36)).alloc (.cells #[.bool false, .slice none 0 0] 24)).heap[w.heap.size + 1]? = some (.cells #[.bool false, .slice none 0 0] 24 (0, 0)) := alloc_at (by simp)
  have HH := H.out.below B0
  refine wp_region_gives0 6 [IsV (.pointer (some ⟨w.heap.size, 0, none⟩)), IsV (.bool s), IsV (.pointer (some ⟨w.heap.size, 1, none⟩)), IsV (.slice A n c), IsN .u64 B64 X 40000, fun v w => ∃ A t c, v = .agg #[.bool s, .slice A t c] ∧ Num .u64 B64 w (.slice A t c) X t ∧ IsLen B64 X t]
    (by kernel_rfl) (by kernel_rfl) rfl ⟨pers_isV _, pers_isV _, pers_isV _, pers_isV _, pers_isN _ _ _ _, (fun v w w' ⟨A, t, c, e, h, l⟩ hE => ⟨A, t, c, e, h.below hE, l⟩), trivial⟩ ?_ ?_
  · simp only [List.take_succ_cons, List.take_zero, Obl0, putAll, Act.put, List.setIfInBounds_toArray, List.set_cons_zero, List.set_cons_succ, Nat.reduceAdd]
    refine ⟨?_, ?_, ?_, ?_, ?_, ?_, trivial⟩
    all_goals
      intro xs w' hE hf K hK
      obtain ⟨c0, c1⟩ := agg_cells hE
      simp only [factsOf, Region.binds, List.getElem?_cons_zero, List.getElem?_cons_succ, IsV, forall_const, true_and, and_true] at hf
    · go_simp
      exact hK.out _ _ rfl (Ext.refl _)
    · simp only [hf] at hK ⊢
      go_simp
      exact hK.out _ _ rfl (Ext.refl _)
    · go_simp
      exact hK.out _ _ rfl (Ext.refl _)
    · simp only [hf] at hK ⊢
      go_simp
      exact hK.out _ _ rfl (Ext.refl _)
    · simp only [hf] at hK ⊢
      go_simp
      refine (limbs_calls _ X n _ (HH.below hE) (fun q hq => by have := hq.uniq HL.out; omega)).mono ?_
      rintro e w1 ⟨v', t, rfl, h1, h2, hb⟩
      obtain ⟨D, d, rfl, _, _⟩ := h1.form
      have ht : t ≤ 40000 := by
        have := h2.le (show X < B64 ^ n from Nat.lt_of_lt_of_le HL.out.1 (Nat.pow_le_pow_left (by decide) _))
        omega
      exact hK.out _ _ ⟨D, t, d, rfl, h1, h2, ht⟩ hb
    · obtain ⟨f1, D, m, d, f2, h1, h2, h3⟩ := hf
      simp only [f1, f2] at hK ⊢
      go_simp
      exact hK.out _ _ ⟨D, m, d, rfl, h1, h2⟩ (Ext.refl _)
  simp only [List.drop_succ_cons, List.drop_zero, List.take_succ_cons, List.take_zero, putAll, Act.put, List.setIfInBounds_toArray, List.set_cons_zero, List.set_cons_succ, Nat.reduceAdd]
  intro xs w' hE hf
  simp only [factsAll, IsV, IsN, Nat.reduceAdd] at hf
  obtain ⟨e0, e1, e2, e3, hN, ⟨A1, t1, c1, e5, hM, hML⟩, _⟩ := hf
  simp only [e0, e1, e2, e3, e5]
  have hblk := (hE.block _ (by simp)).trans hblk0
  obtain ⟨k0, k1, k2, k3⟩ := kept_cells hblk
  have kr := kept_reads hblk (.bool s) (.slice A1 t1 c1)
  obtain ⟨q0, q1⟩ := kr
  have hM2 : Num .u64 B64 ((w'.setCell ⟨w.heap.size + 1, 0, none⟩ (.bool s)).setCell ⟨w.heap.size + 1, 1, none⟩ (.slice A1 t1 c1)) (.slice A1 t1 c1) X t1 := (hM.store hblk (NoInt.two _ _ _ _)).store (heap_setCell hblk _) ((NoInt.two _ _ _ _).set 0 (by simp))
  have hB : Below w.heap.size w ((w'.setCell ⟨w.heap.size + 1, 0, none⟩ (.bool s)).setCell ⟨w.heap.size + 1, 1, none⟩ (.slice A1 t1 c1)) := ((B0.trans (hE.mono B0.size)).setCell (Nat.le_succ _) _).setCell (Nat.le_succ _) _
  have HM2 := Lib.hid hM2
  have HB := Lib.hid hB
  clear hE hblk e0 e1 e2 e3 e5 hN B0 hblk0 HH hM hM2 hB
  go_wp2_with fail
  refine bodyPost_ret (v := .agg #[.bool s, .slice A1 t1 c1]) (by simp [results, Tryz.results14, go_sem, q0, q1]) rfl ?_
  exact ⟨_, _, _, rfl, HM2.out, hML, HB.out⟩
set_option maxRecDepth 100000 in
theorem same2_calls (s : Bool) (A : Option Addr) (n c X : Nat) (s' : Bool) (A' : Option Addr) (n' c' X' : Nat) (w : World) (h : Num .u64 B64 w (.slice A n c) X n) (k : Num .u64 B64 w (.slice A' n' c') X' n') :
    Calls Tryz.prog 23 #[.agg #[.bool s, .slice A n c], .agg #[.bool s', .slice A' n' c']] w fun e w' => ∃ b, e = .returned (.bool b) ∧ (b = true ↔ s = s' ∧ n = n' ∧ X = X') ∧ Below w.heap.size w w' := by
  have H := Lib.hid h
  have K := Lib.hid k
  clear h k
  have B0 : Hid (∀ o o', Below w.heap.size w ((w.alloc o).alloc o')) := fun o o' => ((Below.refl _ w).alloc (Nat.le_refl _) _).alloc (by simp) _
  by_cases hs : s = s'
  · subst hs
    have hss : (s == s) = true := by simp
    go_enter Tryz.func23, Tryz.ntmps23
    go_wp2_with fail
    refine (same_calls _ _ X X' n n' _ (H.out.below (B0.out _ _)) (K.out.below (B0.out _ _))).mono ?_
    rintro e w1 ⟨z, rfl, hz, nd, rfl⟩
    go_wp2_with fail
    go_ret
    exact ⟨z, rfl, by rw [hz]; simp, below_drewN (B0.out _ _) nd⟩
  · have hss : (s == s') = false := by simp [hs]
    have hs' := Lib.hid hs
    clear hs
    go_enter Tryz.func23, Tryz.ntmps23
    go_wp2_with fail
    go_ret
    exact ⟨false, rfl, by simp; intro e; exact absurd e hs'.out, B0.out _ _⟩
end Go.Proofs.YtmobnjlbbhhedaaGreatDoor
