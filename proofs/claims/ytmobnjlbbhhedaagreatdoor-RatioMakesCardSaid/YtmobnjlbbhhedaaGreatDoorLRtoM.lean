/- The walk of the statement RatioMakes. -/
import Derived.Test.YtmobnjlbbhhedaaGreatDoorAwk4
import Derived.Test.YtmobnjlbbhhedaaGreatDoorReF
import Derived.Test.YtmobnjlbbhhedaaGreatDoorCode
set_option linter.unusedVariables false
set_option linter.unusedSimpArgs false
namespace Go.Proofs.YtmobnjlbbhhedaaGreatDoor
open Go.RowKit

theorem sign_zero_iff' {s : Bool} {X : Nat} : (if sgn s X < 0 then -1 else if sgn s X = 0 then (0 : Int) else 1) = 0 ↔ X = 0 := by
  rw [sign_if, Int.sign_eq_zero_iff_zero]
  cases s <;> simp [sgn]
set_option maxHeartbeats 8000000 in
set_option maxRecDepth 100000 in
theorem ratioMakes_walk (s : Bool) (A : Option Addr) (n c X : Nat) (s' : Bool) (A' : Option Addr) (n' c' X' : Nat) (w : World)
    (h : Num .u64 B64 w (.slice A n c) X n) (k : Num .u64 B64 w (.slice A' n' c') X' n') (hH : Handle w) (hT : TabAt w) (htab : Lib.TabIs Tryz.prog w "internal/strconv.uint64pow10" .u64 Lib.pow10Tab) :
    Calls Tryz.prog 5 #[.agg #[.bool s, .slice A n c], .agg #[.bool s', .slice A' n' c']] w fun e w' => e = .returned (.bool true) ∧ Below w.heap.size w w' := by
  have T := Lib.hid hT
  have TT := Lib.hid (Lib.tabBelow_of_tabIs htab)
  have H := Lib.hid h
  have K := Lib.hid k
  have HH := Lib.hid hH
  clear hT htab h k hH
  have B0 : Hid (∀ o o', Below w.heap.size w ((w.alloc o).alloc o')) := fun o o' => ((Below.refl _ w).alloc (Nat.le_refl _) _).alloc (by simp) _
  have CA : Hid (∀ ty o, (((w.alloc (.cells #[.bool s, .slice A n c] ty)).alloc o).heap[w.heap.size]? = some (.cells #[.bool s, .slice A n c] ty (0, 0)))) := fun ty o => (((Below.refl (w.heap.size + 1) _).alloc (by simp) _).block _ (by omega)).trans (alloc_at rfl)
  have CB : Hid (∀ o ty, (((w.alloc o).alloc (.cells #[.bool s', .slice A' n' c'] ty)).heap[w.heap.size + 1]? = some (.cells #[.bool s', .slice A' n' c'] ty (0, 0)))) := fun o ty => alloc_at (by simp)
  go_enter Tryz.func5, Tryz.ntmps5
  go_wp2_with fail
  refine (awake4_calls _ (T.out.below (B0.out _ _)) (TT.out _ (B0.out _ _))).mono ?_
  rintro e w1 ⟨rfl, hb⟩
  have B1 := Lib.hid (below_next' (B0.out _ _) hb)
  obtain ⟨a0, a1, _, _⟩ := kept_cells ((hb.block _ (by simp; omega)).trans (CA.out _ _))
  obtain ⟨b0, b1, _, _⟩ := kept_cells ((hb.block _ (by simp)).trans (CB.out _ _))
  clear hb B0 CA CB
  by_cases hg : n ≤ 8 ∧ n' ≤ 8
  · obtain ⟨hn, hn'⟩ := hg
    go_wp2_with fail
    refine (make_calls s A n c X s' A' n' c' X' _ (H.out.below B1.out) (K.out.below B1.out) (by omega) (by omega) (T.out.below B1.out)).mono ?_
    rintro e w2 ⟨hc0, hc1, hb⟩
    have B2 := Lib.hid (below_next' B1.out hb)
    replace a0 := cell_below hb a0
    replace a1 := cell_below hb a1
    replace b0 := cell_below hb b0
    replace b1 := cell_below hb b1
    clear hb B1
    rcases Nat.eq_zero_or_pos X' with hX | hX
    · obtain rfl := hc0 hX
      have hX' := Lib.hid hX
      have Ba : ∀ o, Below w2.heap.size w2 (w2.alloc o) := fun o => (Below.refl _ _).alloc (Nat.le_refl _) _
      have BaH := Lib.hid Ba
      have a0' : ∀ o, (w2.alloc o).cell? ⟨w.heap.size, 0, none⟩ = some (.bool s) := fun o => cell_below (Ba o) a0
      have a1' : ∀ o, (w2.alloc o).cell? ⟨w.heap.size, 1, none⟩ = some (.slice A n c) := fun o => cell_below (Ba o) a1
      have b0' : ∀ o, (w2.alloc o).cell? ⟨w.heap.size + 1, 0, none⟩ = some (.bool s') := fun o => cell_below (Ba o) b0
      have b1' : ∀ o, (w2.alloc o).cell? ⟨w.heap.size + 1, 1, none⟩ = some (.slice A' n' c') := fun o => cell_below (Ba o) b1
      have RH : Hid (∀ t, (w2.alloc (.cells #[.bool false, .slice none 0 0, .bool false, .slice none 0 0] t)).heap[w2.heap.size]? = some (.cells #[.bool false, .slice none 0 0, .bool false, .slice none 0 0] t (0, 0))) := fun t => alloc_at rfl
      clear hc0 hc1 hX Ba a0 a1 b0 b1
      simp only [errN]
      go_wp2_with fail
      refine (fromz_calls _ (sgn s' X') n' _ (AInt.mk (K.out.below (below_next' B2.out (BaH.out _)))) (by omega)).mono ?_
      rintro e w3 ⟨v3, rfl, hv, hb⟩
      obtain ⟨d3, A3, m3, c3, rfl⟩ := hv.form
      have B3 := Lib.hid (below_next' (below_next' B2.out (BaH.out _)) hb)
      have HV := Lib.hid hv
      have rr := (hb.block _ (by simp)).trans (RH.out _)
      have hs3 : w2.heap.size < w3.heap.size := by have := hb.size; simp at this; omega
      clear hv hb a0' a1' b0' b1' BaH RH
      go_wp2_with fail
      have Bd : Hid (∀ o, Below w3.heap.size w3 (w3.alloc o)) := fun o => (Below.refl _ _).alloc (Nat.le_refl _) _
      have hsgn : Hid ((if sgn s' X' < 0 then -1 else if sgn s' X' = 0 then (0 : Int) else 1) = 0) := sign_zero_iff'.2 hX'.out
      refine (sign_calls _ _ _ _ (HV.out.below (Bd.out _))).mono ?_
      rw [hsgn.out]
      rintro e w4 ⟨rfl, hb⟩
      have hb2 : Below w3.heap.size w3 w4 := (Bd.out _).trans (hb.mono (by simp))
      have B4 := Lib.hid (below_next' B3.out hb2)
      have rr4 := (hb2.block _ hs3).trans rr
      have hs4 := hb2.size
      clear hb hb2 rr HV B3 Bd
      go_wp2_with fail
      refine (code_calls 6 (by omega) _ (HH.out.below B4.out)).mono ?_
      rintro e w5 ⟨rfl, hb⟩
      have B5 := Lib.hid (below_next' B4.out hb)
      obtain ⟨⟨r0, r1, r2, r3⟩, _⟩ := kept4 ((hb.block _ (by omega)).trans rr4)
      clear hb rr4 B4
      go_wp2_with fail
      refine (same4_calls _ _ 0 0 0 0 0 0 _ (CRat.zero _ 0) (CRat.zero _ 0)).mono ?_
      rintro e w6 ⟨z, rfl, hz, hb⟩
      obtain rfl : z = true := hz.2 ⟨rfl, rfl⟩
      have B6 := Lib.hid (below_next' B5.out hb)
      clear hz hb B5 r0 r1 r2 r3
      go_wp2_with fail
      go_ret
      exact ⟨rfl, B6.out⟩
    · obtain ⟨ns, NA, nn, ds, DA, dn, rfl, hN, hD⟩ := hc1 hX
      have hX' := Lib.hid hX
      have HN := Lib.hid hN
      have HD := Lib.hid hD
      have Ba : ∀ o, Below w2.heap.size w2 (w2.alloc o) := fun o => (Below.refl _ _).alloc (Nat.le_refl _) _
      have BaH := Lib.hid Ba
      have a0' : ∀ o, (w2.alloc o).cell? ⟨w.heap.size, 0, none⟩ = some (.bool s) := fun o => cell_below (Ba o) a0
      have a1' : ∀ o, (w2.alloc o).cell? ⟨w.heap.size, 1, none⟩ = some (.slice A n c) := fun o => cell_below (Ba o) a1
      have b0' : ∀ o, (w2.alloc o).cell? ⟨w.heap.size + 1, 0, none⟩ = some (.bool s') := fun o => cell_below (Ba o) b0
      have b1' : ∀ o, (w2.alloc o).cell? ⟨w.heap.size + 1, 1, none⟩ = some (.slice A' n' c') := fun o => cell_below (Ba o) b1
      have RH : Hid (∀ t, (w2.alloc (.cells #[.bool ns, .slice NA nn nn, .bool ds, .slice DA dn dn] t)).heap[w2.heap.size]? = some (.cells #[.bool ns, .slice NA nn nn, .bool ds, .slice DA dn dn] t (0, 0))) := fun t => alloc_at rfl
      clear hc0 hc1 hX hN hD Ba a0 a1 b0 b1
      go_wp2_with fail
      refine (fromz_calls _ (sgn s' X') n' _ (AInt.mk (K.out.below (below_next' B2.out (BaH.out _)))) (by omega)).mono ?_
      rintro e w3 ⟨v3, rfl, hv, hb⟩
      obtain ⟨d3, A3, m3, c3, rfl⟩ := hv.form
      have B3 := Lib.hid (below_next' (below_next' B2.out (BaH.out _)) hb)
      have HV := Lib.hid hv
      have rr := (hb.block _ (by simp)).trans (RH.out _)
      have hs3 : w2.heap.size < w3.heap.size := by have := hb.size; simp at this; omega
      have hb2 : Below w2.heap.size w2 w3 := (BaH.out _).trans (hb.mono (by simp))
      replace HN := Lib.hid (HN.out.below hb2)
      replace HD := Lib.hid (HD.out.below hb2)
      have a0 := cell_below hb (a0' _)
      have a1 := cell_below hb (a1' _)
      clear hv hb hb2 a0' a1' b0' b1' BaH RH
      have Bd : Hid (∀ o, Below w3.heap.size w3 (w3.alloc o)) := fun o => (Below.refl _ _).alloc (Nat.le_refl _) _
      have zc := Lib.hid (fun w h => sign_calls (.agg #[.bool d3, .slice A3 m3 c3]) (sgn s' X') (4 * n') w h)
      obtain ⟨zs, hzs⟩ : ∃ zs, zs = (if sgn s' X' < 0 then -1 else if sgn s' X' = 0 then (0 : Int) else 1) := ⟨_, rfl⟩
      rw [← hzs] at zc
      have hz0 : (zs == 0) = false := by
        simp
        intro h
        have := sign_zero_iff'.1 (hzs.symm.trans h)
        have := hX'.out
        omega
      have da := Lib.hid (fun t => cells2 (w := w3) (s := d3) (A := A3) (n := m3) (c := c3) (t := t))
      clear hzs
      go_wp2_with fail
      refine (zc.out _ (HV.out.below (Bd.out _))).mono ?_
      rintro e w4 ⟨rfl, hb⟩
      have hb2 : Below w3.heap.size w3 w4 := (Bd.out _).trans (hb.mono (by simp))
      have B4 := Lib.hid (below_next' B3.out hb2)
      obtain ⟨⟨r0, r1, r2, r3⟩, _⟩ := kept4 ((hb2.block _ hs3).trans rr)
      have d0 := cell_below hb (da.out _).1
      have d1 := cell_below hb (da.out _).2
      replace a0 := cell_below hb2 a0
      replace a1 := cell_below hb2 a1
      replace HN := Lib.hid (HN.out.below hb2)
      replace HD := Lib.hid (HD.out.below hb2)
      replace HV := Lib.hid (HV.out.below hb2)
      clear hb hb2 rr B3 Bd da zc
      obtain ⟨_, _, _, X1, e1, hn1, hl1, hm1, hz1, hp1⟩ := HN.out
      cases e1
      obtain ⟨_, _, _, X2, e2, hn2, hl2, hm2, hz2, hp2⟩ := HD.out
      cases e2
      obtain rfl := sgn_abs hz1
      obtain rfl := sgn_abs hz2
      have hgp : 0 < Nat.gcd X X' := Nat.gcd_pos_of_pos_right X hX'.out
      have hDp : 0 < X' / Nat.gcd X X' := Nat.div_pos (Nat.gcd_le_right X hX'.out) hgp
      have hds : ds = false := (sgn_flag hz2 hDp).symm
      have hright : Hid (IsPlain ns (X / Nat.gcd X X') nn ∧ IsPlain ds (X' / Nat.gcd X X') dn ∧ ds = false ∧ 0 < X' / Nat.gcd X X' ∧ Nat.gcd (X / Nat.gcd X X') (X' / Nat.gcd X X') = 1) :=
        ⟨⟨hl1, hp1⟩, ⟨hl2, hp2⟩, hds, hDp, Nat.coprime_div_gcd_div_gcd hgp⟩
      have NN := Lib.hid hn1
      have ND := Lib.hid hn2
      clear hn1 hl1 hz1 hp1 hn2 hl2 hz2 hp2 hgp hDp hds
      go_wp2_with fail
      refine wp_region_gives 14 [IsV .nilIface, IsV (.bool true), IsV (.bool true), IsV (.agg #[.bool ns, .slice NA nn nn, .bool ds, .slice DA dn dn]), IsV (.agg #[.bool s, .slice A n c]), IsR (sgn s X) 32, IsV (.agg #[.bool d3, .slice A3 m3 c3]), IsCR (sgn (s != s') (X / Nat.gcd X X')) (sgn false (X' / Nat.gcd X X')) 32, IsV (.bool true), IsV (.bool true), IsV (.bool true), IsV (.agg #[.bool ns, .slice NA nn nn, .bool ds, .slice DA dn dn]), IsV (.bool true), IsV (.bool true)]
        (by kernel_rfl) (by kernel_rfl) rfl ⟨pers_isV _, pers_isV _, pers_isV _, pers_isV _, pers_isV _, pers_isR _ _, pers_isV _, pers_isCR _ _ _, pers_isV _, pers_isV _, pers_isV _, pers_isV _, pers_isV _, pers_isV _, trivial⟩ ?_ ?_
      · simp only [List.take_succ_cons, List.take_zero, Obl, putAll, Act.put, List.setIfInBounds_toArray, List.set_cons_zero, List.set_cons_succ, Nat.reduceAdd]
        refine ⟨?_, ?_, ?_, ?_, ?_, ?_, ?_, ?_, ?_, ?_, ?_, ?_, ?_, ?_, trivial⟩
        all_goals
          intro xs w' hE hf K' hK
          simp only [factsOf, Region.binds, List.getElem?_cons_zero, List.getElem?_cons_succ, IsV, IsR, IsCR, forall_const, true_and, and_true] at hf
        · try simp only [hf] at hK ⊢
          rw [if_pos (by rfl)]
          go_simp
          exact hK.out _ _ _ rfl rfl (Ext.refl _)
        · try simp only [hf] at hK ⊢
          rw [if_pos (by rfl)]
          go_simp
          exact hK.out _ _ _ rfl rfl (Ext.refl _)
        · try simp only [hf] at hK ⊢
          rw [if_pos (by rfl)]
          go_simp
          exact hK.out _ _ _ rfl rfl (Ext.refl _)
        · have f0 := cell_below hE r0
          have f1 := cell_below hE r1
          have f2 := cell_below hE r2
          have f3 := cell_below hE r3
          simp only [hf] at hK ⊢
          rw [if_pos (by rfl)]
          go_simp
          exact hK.out _ _ _ rfl rfl (Ext.refl _)
        · have f0 := cell_below hE a0
          have f1 := cell_below hE a1
          simp only [hf] at hK ⊢
          rw [if_pos (by rfl)]
          go_simp
          exact hK.out _ _ _ rfl rfl (Ext.refl _)
        · obtain ⟨q1, q2⟩ := hf
          simp only [q1, q2] at hK ⊢
          rw [if_pos (by rfl)]
          go_simp
          refine (fromz_calls _ (sgn s X) n _ (AInt.mk (H.out.below (below_next' B4.out hE))) (by omega)).mono ?_
          rintro e w1 ⟨v1, rfl, hR, hb⟩
          exact hK.out _ _ _ rfl (hR.le (by omega)) hb
        · have f0 := cell_below hE d0
          have f1 := cell_below hE d1
          simp only [hf] at hK ⊢
          rw [if_pos (by rfl)]
          go_simp
          exact hK.out _ _ _ rfl rfl (Ext.refl _)
        · obtain ⟨q1, q2, _, q4⟩ := hf
          simp only [q2, q4] at hK ⊢
          rw [if_pos (by rfl)]
          go_simp
          refine (refMakeS_calls _ _ s s' X X' 32 _ q1 ((HV.out.below hE).le (by omega)) (by omega) hX'.out).mono ?_
          rintro e w1 ⟨v1, rfl, hR, hb⟩
          exact hK.out _ _ _ rfl hR hb
        · obtain ⟨q1, q2, _, q3⟩ := hf
          simp only [q1, q3] at hK ⊢
          rw [if_pos (by rfl)]
          go_simp
          refine (same4_calls _ _ _ _ _ _ 32 32 _ (⟨_, _, _, _, _, _, _, _, rfl, ((HN.out.below hE).toC).le (by omega), ((HD.out.below hE).toC).le (by omega)⟩ : CRat _ _ (sgn (s != s') (X / Nat.gcd X X')) (sgn false (X' / Nat.gcd X X')) 32) q2).mono ?_
          rintro e w1 ⟨z, rfl, hz, hb⟩
          obtain rfl : z = true := hz.2 ⟨rfl, rfl⟩
          exact hK.out _ _ _ rfl rfl hb
        · try simp only [hf] at hK ⊢
          rw [if_pos (by rfl)]
          go_simp
          exact hK.out _ _ _ rfl rfl (Ext.refl _)
        · try simp only [hf] at hK ⊢
          rw [if_pos (by rfl)]
          go_simp
          exact hK.out _ _ _ rfl rfl (Ext.refl _)
        · have f0 := cell_below hE r0
          have f1 := cell_below hE r1
          have f2 := cell_below hE r2
          have f3 := cell_below hE r3
          simp only [hf] at hK ⊢
          rw [if_pos (by rfl)]
          go_simp
          exact hK.out _ _ _ rfl rfl (Ext.refl _)
        · obtain ⟨q1, q2⟩ := hf
          simp only [q1, q2] at hK ⊢
          rw [if_pos (by rfl)]
          go_simp
          refine (right_calls ns NA nn nn (X / Nat.gcd X X') ds DA dn dn (X' / Nat.gcd X X') _ (NN.out.below (hE)) (ND.out.below hE) (by omega) (by omega) (T.out.below (below_next' B4.out hE))).mono ?_
          rintro e w1 ⟨z, rfl, hz, hb⟩
          obtain rfl : z = true := hz.2 hright.out
          exact hK.out _ _ _ rfl rfl hb
        · try simp only [hf] at hK ⊢
          rw [if_pos (by rfl)]
          go_simp
          exact hK.out _ _ _ rfl rfl (Ext.refl _)
      simp only [List.drop_succ_cons, List.drop_zero, List.take_succ_cons, List.take_zero, putAll, Act.put, List.setIfInBounds_toArray, List.set_cons_zero, List.set_cons_succ, Nat.reduceAdd]
      intro xs w10 hE hf
      simp only [factsAll, IsV, Nat.reduceAdd] at hf
      obtain ⟨e0, e1, e2, e3, e4, _, e6, _, e8, e9, e10, e11, e12, e13, _⟩ := hf
      simp only [e0, e1, e2, e3, e4, e6, e8, e9, e10, e11, e12, e13]
      have B10 := Lib.hid (below_next' B4.out hE)
      clear e0 e1 e2 e3 e4 e6 e8 e9 e10 e11 e12 e13 hE B4 a0 a1 d0 d1 r0 r1 r2 r3
      go_wp2_with fail
      go_ret
      exact ⟨rfl, B10.out⟩
  · have hg' : 8 < n ∨ (¬ 8 < n ∧ 8 < n') := by omega
    clear hg
    rcases hg' with h1 | ⟨h1, h2⟩
    all_goals
      go_wp2_with fail
      go_ret
      exact ⟨rfl, B1.out⟩
end Go.Proofs.YtmobnjlbbhhedaaGreatDoor
