/- The walks of outriggerref04.Right, Text. -/
import Derived.Test.YtmobnjlbbhhedaaGreatDoorReD
import Derived.Test.YtmobnjlbbhhedaaGreatDoorRefNa
import Derived.Test.YtmobnjlbbhhedaaGreatDoorRefT
import Derived.Test.YtmobnjlbbhhedaaGreatDoorRtoC
set_option linter.unusedVariables false
set_option linter.unusedSimpArgs false
namespace Go.Proofs.YtmobnjlbbhhedaaGreatDoor
open Go.RowKit

theorem RNum.openR {w : World} {v : Value} {s : Bool} {X L : Nat} (h : RNum w v (sgn s X) L) :
    ∃ A m c, v = .agg #[.bool (s && decide (0 < X)), .slice A m c] ∧ Num .u32 B16 w (.slice A m c) X m ∧ IsLen B16 X m ∧ m ≤ L := by
  obtain ⟨ng, A, m, c, Y, rfl, h1, h2, h3, h4, h5⟩ := h
  have hp : (s && decide (0 < X)) = true → 0 < X := by simp
  rw [sgn_plain] at h4
  obtain ⟨rfl, rfl⟩ := sgn_inj (s := s && decide (0 < X)) (t := ng) h4 hp h5
  exact ⟨A, m, c, rfl, h1, h2, h3⟩
theorem plain_iff (s : Bool) (X n : Nat) : (s && decide (0 < X)) = s ∧ IsLen B64 X n ↔ IsPlain s X n := by
  unfold IsPlain
  constructor
  · rintro ⟨h1, h2⟩
    exact ⟨h2, fun e => by rw [e] at h1; simpa using h1⟩
  · rintro ⟨h1, h2⟩
    refine ⟨?_, h1⟩
    cases s with
    | false => rfl
    | true => simp [h2 rfl]
theorem one_iff (s : Bool) (X : Nat) : (if sgn s X < 0 then -1 else if sgn s X = 0 then (0 : Int) else 1) = 1 ↔ s = false ∧ 0 < X := by
  rw [sign_if]
  constructor
  · intro h
    have h0 : 0 < sgn s X := by
      rcases Int.lt_trichotomy (sgn s X) 0 with k | k | k
      · rw [Int.sign_eq_neg_one_of_neg k] at h; omega
      · rw [k] at h; simp at h
      · exact k
    cases s with
    | false => simp [sgn] at h0; exact ⟨rfl, by omega⟩
    | true => simp [sgn] at h0; omega
  · rintro ⟨rfl, h⟩
    exact Int.sign_eq_one_of_pos (by simp [sgn]; omega)
set_option maxHeartbeats 8000000 in
set_option maxRecDepth 100000 in
theorem refRight_calls (s : Bool) (A : Option Addr) (n c X : Nat) (s' : Bool) (A' : Option Addr) (n' c' X' : Nat) (w : World) (h : Num .u64 B64 w (.slice A n c) X n) (k : Num .u64 B64 w (.slice A' n' c') X' n') (hn : n ≤ 100) (hn' : n' ≤ 100) :
    Calls Tryz.prog 8 #[.agg #[.bool s, .slice A n c, .bool s', .slice A' n' c']] w fun e w' => ∃ b, e = .returned (.bool b) ∧ (b = true ↔ RightR s X n s' X' n') ∧ Below w.heap.size w w' := by
  have H := Lib.hid h
  have K := Lib.hid k
  clear h k
  go_enter Tryz.func8, Tryz.ntmps8
  go_wp2_with fail
  have B0 : Below w.heap.size w (w.alloc (.cells #[.bool s, .slice A n c, .bool s', .slice A' n' c'] 26)) := (Below.refl _ _).alloc (Nat.le_refl _) _
  have hblk := alloc_at (w := w) (o := .cells #[.bool s, .slice A n c, .bool s', .slice A' n' c'] 26) rfl
  refine (fromz_calls _ (sgn s X) n _ (AInt.mk (H.out.below B0)) (by omega)).mono ?_
  rintro e w1 ⟨v1, rfl, hv, hb⟩
  obtain ⟨A1, m1, c1, rfl, hv1, hl1, hm1⟩ := hv.openR
  obtain ⟨f1, hf1⟩ : ∃ f, f = (s && decide (0 < X)) := ⟨_, rfl⟩
  rw [← hf1]
  have Q1 : Hid (f1 = s ∧ IsLen B64 X n ↔ IsPlain s X n) := by rw [hf1]; exact plain_iff s X n
  have B1 := Lib.hid (below_next' B0 hb)
  have hs1 : w.heap.size < w1.heap.size := by have := hb.size; simp at this; omega
  replace hblk := (hb.block _ (by simp)).trans hblk
  obtain ⟨⟨d0, d1, d2, d3⟩, _⟩ := kept4 hblk
  have V1 := Lib.hid hv1
  have L1 := Lib.hid hl1
  have Ba : ∀ o, Below w1.heap.size w1 (w1.alloc o) := fun o => (Below.refl _ _).alloc (Nat.le_refl _) _
  have BaH := Lib.hid Ba
  have e2 : ∀ o, (w1.alloc o).cell? ⟨w.heap.size, 2, none⟩ = some (.bool s') := fun o => cell_below (Ba o) d2
  have e3 : ∀ o, (w1.alloc o).cell? ⟨w.heap.size, 3, none⟩ = some (.slice A' n' c') := fun o => cell_below (Ba o) d3
  have ua := Lib.hid (fun t => alloc_at (w := w1) (o := .cells #[.bool f1, .slice A1 m1 c1] t) rfl)
  have hb' := Lib.hid hblk
  clear hv hb B0 Ba hblk d0 d1 d2 d3 hv1 hl1 hf1
  go_wp2_with fail
  refine (fromz_calls _ (sgn s' X') n' _ (AInt.mk (K.out.below (below_next' B1.out (BaH.out _)))) (by omega)).mono ?_
  rintro e w2 ⟨v2, rfl, hv, hb⟩
  have HR2 := Lib.hid hv
  obtain ⟨A2, m2, c2, rfl, hv2, hl2, hm2⟩ := hv.openR
  obtain ⟨f2, hf2⟩ : ∃ f, f = (s' && decide (0 < X')) := ⟨_, rfl⟩
  rw [← hf2] at HR2
  rw [← hf2]
  have Q2 : Hid (f2 = s' ∧ IsLen B64 X' n' ↔ IsPlain s' X' n') := by rw [hf2]; exact plain_iff s' X' n'
  have hb2 : Below w1.heap.size w1 w2 := (BaH.out _).trans (hb.mono (by simp))
  have B2 := Lib.hid (below_next' B1.out hb2)
  have hblk := (hb2.block _ hs1).trans hb'.out
  have hu := (hb.block _ (by simp)).trans (ua.out _)
  have hs2 : w1.heap.size < w2.heap.size := by have := hb.size; simp at this; omega
  have V1' := Lib.hid (V1.out.below hb2)
  have V2' := Lib.hid hv2
  have L2 := Lib.hid hl2
  have W3 : ∃ W, W = w2.alloc (.cells #[.bool f2, .slice A2 m2 c2] 36) := ⟨_, rfl⟩
  clear hv hb hb2 B1 e2 e3 ua hb' BaH V1 hv2 hl2 hf2
  go_wp2_with fail
  have Bb : Below w2.heap.size w2 (w2.alloc (.cells #[.bool f2, .slice A2 m2 c2] 36)) := (Below.refl _ _).alloc (Nat.le_refl _) _
  obtain ⟨i0, i1⟩ := cells2 (w := w2) (s := f2) (A := A2) (n := m2) (c := c2) (t := 36)
  obtain ⟨⟨h0, h1, h2, h3⟩, _⟩ := kept4 ((Bb.block _ (by omega)).trans hblk)
  obtain ⟨g0, g1, _, _⟩ := kept_cells ((Bb.block _ hs2).trans hu)
  generalize w2.alloc (.cells #[.bool f2, .slice A2 m2 c2] 36) = w3 at *
  have B3 := Lib.hid (below_next' B2.out Bb)
  have V1 := Lib.hid (V1'.out.below Bb)
  have V2 := Lib.hid (V2'.out.below Bb)
  have R2 := Lib.hid (HR2.out.below Bb)
  replace H := Lib.hid (H.out.below B3.out)
  replace K := Lib.hid (K.out.below B3.out)
  clear W3 Bb B2 V1' V2' HR2 hblk hu
  obtain ⟨zs, hzs⟩ : ∃ zs, zs = (if sgn s' X' < 0 then -1 else if sgn s' X' = 0 then (0 : Int) else 1) := ⟨_, rfl⟩
  have zc := Lib.hid (fun w h => sign_calls (.agg #[.bool f2, .slice A2 m2 c2]) (sgn s' X') (4 * n') w h)
  rw [← hzs] at zc
  have hz1 : zs = 1 ↔ s' = false ∧ 0 < X' := by rw [hzs]; exact one_iff s' X'
  have Z1 := Lib.hid hz1
  clear hzs hz1
  by_cases hP1 : IsPlain s X n
  · have P1 := Lib.hid hP1
    clear hP1
    by_cases hP2 : IsPlain s' X' n'
    · have P2 := Lib.hid hP2
      clear hP2
      by_cases hP3 : s' = false ∧ 0 < X'
      · have P3 := Lib.hid hP3
        have hzv : zs = 1 := Z1.out.2 hP3
        subst hzv
        clear hP3
        refine wp_region_gives 18 [IsV (.agg #[.bool f1, .slice A1 m1 c1]), fun v w => ∃ A t c, v = .agg #[.bool f1, .slice A t c] ∧ Num .u64 B64 w (.slice A t c) X t ∧ IsLen B64 X t, IsV (.pointer (some ⟨w.heap.size, 0, none⟩)), IsV (.agg #[.bool s, .slice A n c]), IsV (.bool true), IsV (.bool false), IsV (.bool false), IsV (.agg #[.bool f2, .slice A2 m2 c2]), fun v w => ∃ A t c, v = .agg #[.bool f2, .slice A t c] ∧ Num .u64 B64 w (.slice A t c) X' t ∧ IsLen B64 X' t, IsV (.pointer (some ⟨w.heap.size, 2, none⟩)), IsV (.agg #[.bool s', .slice A' n' c']), IsV (.bool true), IsV (.bool false), IsV (.bool false), IsV (.bool false), IsV (.agg #[.bool f2, .slice A2 m2 c2]), IsV (.int .i64 1), IsV (.bool false)]
          (by kernel_rfl) (by kernel_rfl) rfl ⟨pers_isV _, (fun v w w' ⟨A, t, c, e, h, l⟩ hE => ⟨A, t, c, e, h.below hE, l⟩), pers_isV _, pers_isV _, pers_isV _, pers_isV _, pers_isV _, pers_isV _, (fun v w w' ⟨A, t, c, e, h, l⟩ hE => ⟨A, t, c, e, h.below hE, l⟩), pers_isV _, pers_isV _, pers_isV _, pers_isV _, pers_isV _, pers_isV _, pers_isV _, pers_isV _, pers_isV _, trivial⟩ ?_ ?_
        · simp only [List.take_succ_cons, List.take_zero, Obl, putAll, Act.put, List.setIfInBounds_toArray, List.set_cons_zero, List.set_cons_succ, Nat.reduceAdd]
          refine ⟨?_, ?_, ?_, ?_, ?_, ?_, ?_, ?_, ?_, ?_, ?_, ?_, ?_, ?_, ?_, ?_, ?_, ?_, trivial⟩
          all_goals
            intro xs w' hE hf K' hK
            simp only [factsOf, Region.binds, List.getElem?_cons_zero, List.getElem?_cons_succ, IsV, forall_const, true_and, and_true] at hf
          · have z0 := cell_below hE g0
            have z1 := cell_below hE g1
            try simp only [hf] at hK ⊢
            rw [if_pos (by rfl)]
            go_simp
            exact hK.out _ _ _ rfl rfl (Ext.refl _)
          · simp only [hf] at hK ⊢
            rw [if_pos (by rfl)]
            go_simp
            refine (to_calls f1 A1 m1 c1 X _ (V1.out.below hE) L1.out (by omega)).mono ?_
            rintro e w1 ⟨A, t, c, rfl, h1, h2, hb⟩
            exact hK.out _ _ _ rfl ⟨_, _, _, rfl, h1, h2⟩ hb
          · try simp only [hf] at hK ⊢
            rw [if_pos (by rfl)]
            go_simp
            exact hK.out _ _ _ rfl rfl (Ext.refl _)
          · have z0 := cell_below hE h0
            have z1 := cell_below hE h1
            try simp only [hf] at hK ⊢
            rw [if_pos (by rfl)]
            go_simp
            exact hK.out _ _ _ rfl rfl (Ext.refl _)
          · obtain ⟨⟨A0, t0, c0, q1, h01, h02⟩, q2, _⟩ := hf
            simp only [q1, q2] at hK ⊢
            rw [if_pos (by rfl)]
            go_simp
            refine (same2_calls f1 A0 t0 c0 X s A n c X _ h01 (H.out.below hE)).mono ?_
            rintro e w1 ⟨z, rfl, hz, hb⟩
            obtain rfl : z = true := by
              exact hz.2 ⟨(Q1.out.2 P1.out).1, (h02.uniq (Q1.out.2 P1.out).2), rfl⟩
            exact hK.out _ _ _ rfl rfl hb
          · try simp only [hf] at hK ⊢
            rw [if_pos (by rfl)]
            go_simp
            exact hK.out _ _ _ rfl rfl (Ext.refl _)
          · try simp only [hf] at hK ⊢
            rw [if_pos (by rfl)]
            go_simp
            exact hK.out _ _ _ rfl rfl (Ext.refl _)
          · have z0 := cell_below hE i0
            have z1 := cell_below hE i1
            try simp only [hf] at hK ⊢
            rw [if_pos (by rfl)]
            go_simp
            exact hK.out _ _ _ rfl rfl (Ext.refl _)
          · simp only [hf] at hK ⊢
            rw [if_pos (by rfl)]
            go_simp
            refine (to_calls f2 A2 m2 c2 X' _ (V2.out.below hE) L2.out (by omega)).mono ?_
            rintro e w1 ⟨A, t, c, rfl, h1, h2, hb⟩
            exact hK.out _ _ _ rfl ⟨_, _, _, rfl, h1, h2⟩ hb
          · try simp only [hf] at hK ⊢
            rw [if_pos (by rfl)]
            go_simp
            exact hK.out _ _ _ rfl rfl (Ext.refl _)
          · have z0 := cell_below hE h2
            have z1 := cell_below hE h3
            try simp only [hf] at hK ⊢
            rw [if_pos (by rfl)]
            go_simp
            exact hK.out _ _ _ rfl rfl (Ext.refl _)
          · obtain ⟨⟨A0, t0, c0, q1, h01, h02⟩, q2, _, q4⟩ := hf
            simp only [q1, q2, q4] at hK ⊢
            rw [if_pos (by rfl)]
            go_simp
            refine (same2_calls f2 A0 t0 c0 X' s' A' n' c' X' _ h01 (K.out.below hE)).mono ?_
            rintro e w1 ⟨z, rfl, hz, hb⟩
            obtain rfl : z = true := by
              exact hz.2 ⟨(Q2.out.2 P2.out).1, (h02.uniq (Q2.out.2 P2.out).2), rfl⟩
            exact hK.out _ _ _ rfl rfl hb
          · try simp only [hf] at hK ⊢
            rw [if_pos (by rfl)]
            go_simp
            exact hK.out _ _ _ rfl rfl (Ext.refl _)
          · try simp only [hf] at hK ⊢
            rw [if_pos (by rfl)]
            go_simp
            exact hK.out _ _ _ rfl rfl (Ext.refl _)
          · try simp only [hf] at hK ⊢
            rw [if_pos (by rfl)]
            go_simp
            exact hK.out _ _ _ rfl rfl (Ext.refl _)
          · have z0 := cell_below hE i0
            have z1 := cell_below hE i1
            try simp only [hf] at hK ⊢
            rw [if_pos (by rfl)]
            go_simp
            exact hK.out _ _ _ rfl rfl (Ext.refl _)
          · simp only [hf] at hK ⊢
            rw [if_pos (by rfl)]
            go_simp
            refine (zc.out _ (R2.out.below hE)).mono ?_
            rintro e w1 ⟨rfl, hb⟩
            exact hK.out _ _ _ rfl rfl hb
          · try simp only [hf] at hK ⊢
            rw [if_pos (by rfl)]
            go_simp
            exact hK.out _ _ _ rfl rfl (Ext.refl _)
        simp only [List.drop_succ_cons, List.drop_zero, List.take_succ_cons, List.take_zero, putAll, Act.put, List.setIfInBounds_toArray, List.set_cons_zero, List.set_cons_succ, Nat.reduceAdd]
        intro xs w4 hE hf
        simp only [factsAll, IsV, Nat.reduceAdd] at hf
        obtain ⟨e0, ⟨_, _, _, e1, _, _⟩, e2, e3, e4, e5, e6, e7, ⟨_, _, _, e8, _, _⟩, e9, e10, e11, e12, e13, e14, e15, e16, e17, _⟩ := hf
        simp only [e0, e1, e2, e3, e4, e5, e6, e7, e8, e9, e10, e11, e12, e13, e14, e15, e16, e17]
        have B4 := Lib.hid (below_next' B3.out hE)
        clear e0 e1 e2 e3 e4 e5 e6 e7 e8 e9 e10 e11 e12 e13 e14 e15 e16 e17
        replace g0 := cell_below hE g0
        replace g1 := cell_below hE g1
        replace i0 := cell_below hE i0
        replace i1 := cell_below hE i1
        replace V1 := Lib.hid (V1.out.below hE)
        replace V2 := Lib.hid (V2.out.below hE)
        clear hE h0 h1 h2 h3
        go_wp2_with fail
        refine (refGcd_calls _ _ X X' m1 (4 * n + 4 * n') m2 _ V1.out V2.out (by omega) (by omega) (by omega)).mono ?_
        rintro e w5 ⟨GA, gp, gc, rfl, hg, lg, hb⟩
        have B5 := Lib.hid (below_next' B4.out hb)
        have hgp : gp ≤ 40000 := by
          have := lg.le (Nat.lt_of_le_of_lt (Nat.gcd_le_right X P3.out.2) V2.out.lt)
          omega
        have HG := Lib.hid hg
        clear hb hg lg B4 g0 g1 i0 i1
        go_wp2_with fail
        refine (refLen_calls _ _ gp _ HG.out hgp).mono ?_
        rintro e w' ⟨l, rfl, hl, rfl⟩
        have hl1 := gcd_one_len hl
        by_cases h1 : l = 1
        · have e1 : ((l : Int) == 1) = true := by simp [h1]
          have hg1 := Lib.hid (hl1.1 h1)
          clear hl hl1 h1
          go_wp2_with fail
          go_ret
          exact ⟨true, rfl, ⟨fun _ => ⟨P1.out, P2.out, P3.out.1, P3.out.2, hg1.out⟩, fun _ => rfl⟩, B5.out⟩
        · have e1 : ((l : Int) == 1) = false := by simp; omega
          have hg1 : Hid (¬ Nat.gcd X X' = 1) := fun h => h1 (hl1.2 h)
          clear hl hl1 h1
          go_wp2_with fail
          go_ret
          exact ⟨false, rfl, ⟨fun h => (by cases h), fun h => absurd h.2.2.2.2 hg1.out⟩, B5.out⟩
      · have P3 := Lib.hid hP3
        have hzv : (zs == 1) = false := by simp; intro e; exact hP3 (Z1.out.1 e)
        have hzv2 : (zs != 1) = true := by simp; intro e; exact hP3 (Z1.out.1 e)
        clear hP3
        refine wp_region_gives 18 [IsV (.agg #[.bool f1, .slice A1 m1 c1]), fun v w => ∃ A t c, v = .agg #[.bool f1, .slice A t c] ∧ Num .u64 B64 w (.slice A t c) X t ∧ IsLen B64 X t, IsV (.pointer (some ⟨w.heap.size, 0, none⟩)), IsV (.agg #[.bool s, .slice A n c]), IsV (.bool true), IsV (.bool false), IsV (.bool false), IsV (.agg #[.bool f2, .slice A2 m2 c2]), fun v w => ∃ A t c, v = .agg #[.bool f2, .slice A t c] ∧ Num .u64 B64 w (.slice A t c) X' t ∧ IsLen B64 X' t, IsV (.pointer (some ⟨w.heap.size, 2, none⟩)), IsV (.agg #[.bool s', .slice A' n' c']), IsV (.bool true), IsV (.bool false), IsV (.bool false), IsV (.bool false), IsV (.agg #[.bool f2, .slice A2 m2 c2]), IsV (.int .i64 zs), IsV (.bool true)]
          (by kernel_rfl) (by kernel_rfl) rfl ⟨pers_isV _, (fun v w w' ⟨A, t, c, e, h, l⟩ hE => ⟨A, t, c, e, h.below hE, l⟩), pers_isV _, pers_isV _, pers_isV _, pers_isV _, pers_isV _, pers_isV _, (fun v w w' ⟨A, t, c, e, h, l⟩ hE => ⟨A, t, c, e, h.below hE, l⟩), pers_isV _, pers_isV _, pers_isV _, pers_isV _, pers_isV _, pers_isV _, pers_isV _, pers_isV _, pers_isV _, trivial⟩ ?_ ?_
        · simp only [List.take_succ_cons, List.take_zero, Obl, putAll, Act.put, List.setIfInBounds_toArray, List.set_cons_zero, List.set_cons_succ, Nat.reduceAdd]
          refine ⟨?_, ?_, ?_, ?_, ?_, ?_, ?_, ?_, ?_, ?_, ?_, ?_, ?_, ?_, ?_, ?_, ?_, ?_, trivial⟩
          all_goals
            intro xs w' hE hf K' hK
            simp only [factsOf, Region.binds, List.getElem?_cons_zero, List.getElem?_cons_succ, IsV, forall_const, true_and, and_true] at hf
          · have z0 := cell_below hE g0
            have z1 := cell_below hE g1
            try simp only [hf] at hK ⊢
            rw [if_pos (by rfl)]
            go_simp
            exact hK.out _ _ _ rfl rfl (Ext.refl _)
          · simp only [hf] at hK ⊢
            rw [if_pos (by rfl)]
            go_simp
            refine (to_calls f1 A1 m1 c1 X _ (V1.out.below hE) L1.out (by omega)).mono ?_
            rintro e w1 ⟨A, t, c, rfl, h1, h2, hb⟩
            exact hK.out _ _ _ rfl ⟨_, _, _, rfl, h1, h2⟩ hb
          · try simp only [hf] at hK ⊢
            rw [if_pos (by rfl)]
            go_simp
            exact hK.out _ _ _ rfl rfl (Ext.refl _)
          · have z0 := cell_below hE h0
            have z1 := cell_below hE h1
            try simp only [hf] at hK ⊢
            rw [if_pos (by rfl)]
            go_simp
            exact hK.out _ _ _ rfl rfl (Ext.refl _)
          · obtain ⟨⟨A0, t0, c0, q1, h01, h02⟩, q2, _⟩ := hf
            simp only [q1, q2] at hK ⊢
            rw [if_pos (by rfl)]
            go_simp
            refine (same2_calls f1 A0 t0 c0 X s A n c X _ h01 (H.out.below hE)).mono ?_
            rintro e w1 ⟨z, rfl, hz, hb⟩
            obtain rfl : z = true := by
              exact hz.2 ⟨(Q1.out.2 P1.out).1, (h02.uniq (Q1.out.2 P1.out).2), rfl⟩
            exact hK.out _ _ _ rfl rfl hb
          · try simp only [hf] at hK ⊢
            rw [if_pos (by rfl)]
            go_simp
            exact hK.out _ _ _ rfl rfl (Ext.refl _)
          · try simp only [hf] at hK ⊢
            rw [if_pos (by rfl)]
            go_simp
            exact hK.out _ _ _ rfl rfl (Ext.refl _)
          · have z0 := cell_below hE i0
            have z1 := cell_below hE i1
            try simp only [hf] at hK ⊢
            rw [if_pos (by rfl)]
            go_simp
            exact hK.out _ _ _ rfl rfl (Ext.refl _)
          · simp only [hf] at hK ⊢
            rw [if_pos (by rfl)]
            go_simp
            refine (to_calls f2 A2 m2 c2 X' _ (V2.out.below hE) L2.out (by omega)).mono ?_
            rintro e w1 ⟨A, t, c, rfl, h1, h2, hb⟩
            exact hK.out _ _ _ rfl ⟨_, _, _, rfl, h1, h2⟩ hb
          · try simp only [hf] at hK ⊢
            rw [if_pos (by rfl)]
            go_simp
            exact hK.out _ _ _ rfl rfl (Ext.refl _)
          · have z0 := cell_below hE h2
            have z1 := cell_below hE h3
            try simp only [hf] at hK ⊢
            rw [if_pos (by rfl)]
            go_simp
            exact hK.out _ _ _ rfl rfl (Ext.refl _)
          · obtain ⟨⟨A0, t0, c0, q1, h01, h02⟩, q2, _, q4⟩ := hf
            simp only [q1, q2, q4] at hK ⊢
            rw [if_pos (by rfl)]
            go_simp
            refine (same2_calls f2 A0 t0 c0 X' s' A' n' c' X' _ h01 (K.out.below hE)).mono ?_
            rintro e w1 ⟨z, rfl, hz, hb⟩
            obtain rfl : z = true := by
              exact hz.2 ⟨(Q2.out.2 P2.out).1, (h02.uniq (Q2.out.2 P2.out).2), rfl⟩
            exact hK.out _ _ _ rfl rfl hb
          · try simp only [hf] at hK ⊢
            rw [if_pos (by rfl)]
            go_simp
            exact hK.out _ _ _ rfl rfl (Ext.refl _)
          · try simp only [hf] at hK ⊢
            rw [if_pos (by rfl)]
            go_simp
            exact hK.out _ _ _ rfl rfl (Ext.refl _)
          · try simp only [hf] at hK ⊢
            rw [if_pos (by rfl)]
            go_simp
            exact hK.out _ _ _ rfl rfl (Ext.refl _)
          · have z0 := cell_below hE i0
            have z1 := cell_below hE i1
            try simp only [hf] at hK ⊢
            rw [if_pos (by rfl)]
            go_simp
            exact hK.out _ _ _ rfl rfl (Ext.refl _)
          · simp only [hf] at hK ⊢
            rw [if_pos (by rfl)]
            go_simp
            refine (zc.out _ (R2.out.below hE)).mono ?_
            rintro e w1 ⟨rfl, hb⟩
            exact hK.out _ _ _ rfl rfl hb
          · try simp only [hf] at hK ⊢
            rw [if_pos (by rfl)]
            go_simp
            exact hK.out _ _ _ rfl rfl (Ext.refl _)
        simp only [List.drop_succ_cons, List.drop_zero, List.take_succ_cons, List.take_zero, putAll, Act.put, List.setIfInBounds_toArray, List.set_cons_zero, List.set_cons_succ, Nat.reduceAdd]
        intro xs w4 hE hf
        simp only [factsAll, IsV, Nat.reduceAdd] at hf
        obtain ⟨e0, ⟨_, _, _, e1, _, _⟩, e2, e3, e4, e5, e6, e7, ⟨_, _, _, e8, _, _⟩, e9, e10, e11, e12, e13, e14, e15, e16, e17, _⟩ := hf
        simp only [e0, e1, e2, e3, e4, e5, e6, e7, e8, e9, e10, e11, e12, e13, e14, e15, e16, e17]
        have B4 := Lib.hid (below_next' B3.out hE)
        clear e0 e1 e2 e3 e4 e5 e6 e7 e8 e9 e10 e11 e12 e13 e14 e15 e16 e17 hE
        go_wp2_with fail
        go_ret
        exact ⟨false, rfl, ⟨fun h => (by cases h), fun h => absurd ⟨h.2.2.1, h.2.2.2.1⟩ P3.out⟩, B4.out⟩
    · have P2 := Lib.hid hP2
      clear hP2
      refine wp_region_gives 18 [IsV (.agg #[.bool f1, .slice A1 m1 c1]), fun v w => ∃ A t c, v = .agg #[.bool f1, .slice A t c] ∧ Num .u64 B64 w (.slice A t c) X t ∧ IsLen B64 X t, IsV (.pointer (some ⟨w.heap.size, 0, none⟩)), IsV (.agg #[.bool s, .slice A n c]), IsV (.bool true), IsV (.bool false), IsV (.bool false), IsV (.agg #[.bool f2, .slice A2 m2 c2]), fun v w => ∃ A t c, v = .agg #[.bool f2, .slice A t c] ∧ Num .u64 B64 w (.slice A t c) X' t ∧ IsLen B64 X' t, IsV (.pointer (some ⟨w.heap.size, 2, none⟩)), IsV (.agg #[.bool s', .slice A' n' c']), IsV (.bool false), IsV (.bool true), IsV (.bool true), IsV (.bool true), IsV (undef), IsV (undef), IsV (undef)]
        (by kernel_rfl) (by kernel_rfl) rfl ⟨pers_isV _, (fun v w w' ⟨A, t, c, e, h, l⟩ hE => ⟨A, t, c, e, h.below hE, l⟩), pers_isV _, pers_isV _, pers_isV _, pers_isV _, pers_isV _, pers_isV _, (fun v w w' ⟨A, t, c, e, h, l⟩ hE => ⟨A, t, c, e, h.below hE, l⟩), pers_isV _, pers_isV _, pers_isV _, pers_isV _, pers_isV _, pers_isV _, pers_isV _, pers_isV _, pers_isV _, trivial⟩ ?_ ?_
      · simp only [List.take_succ_cons, List.take_zero, Obl, putAll, Act.put, List.setIfInBounds_toArray, List.set_cons_zero, List.set_cons_succ, Nat.reduceAdd]
        refine ⟨?_, ?_, ?_, ?_, ?_, ?_, ?_, ?_, ?_, ?_, ?_, ?_, ?_, ?_, ?_, ?_, ?_, ?_, trivial⟩
        all_goals
          intro xs w' hE hf K' hK
          simp only [factsOf, Region.binds, List.getElem?_cons_zero, List.getElem?_cons_succ, IsV, forall_const, true_and, and_true] at hf
        · have z0 := cell_below hE g0
          have z1 := cell_below hE g1
          try simp only [hf] at hK ⊢
          rw [if_pos (by rfl)]
          go_simp
          exact hK.out _ _ _ rfl rfl (Ext.refl _)
        · simp only [hf] at hK ⊢
          rw [if_pos (by rfl)]
          go_simp
          refine (to_calls f1 A1 m1 c1 X _ (V1.out.below hE) L1.out (by omega)).mono ?_
          rintro e w1 ⟨A, t, c, rfl, h1, h2, hb⟩
          exact hK.out _ _ _ rfl ⟨_, _, _, rfl, h1, h2⟩ hb
        · try simp only [hf] at hK ⊢
          rw [if_pos (by rfl)]
          go_simp
          exact hK.out _ _ _ rfl rfl (Ext.refl _)
        · have z0 := cell_below hE h0
          have z1 := cell_below hE h1
          try simp only [hf] at hK ⊢
          rw [if_pos (by rfl)]
          go_simp
          exact hK.out _ _ _ rfl rfl (Ext.refl _)
        · obtain ⟨⟨A0, t0, c0, q1, h01, h02⟩, q2, _⟩ := hf
          simp only [q1, q2] at hK ⊢
          rw [if_pos (by rfl)]
          go_simp
          refine (same2_calls f1 A0 t0 c0 X s A n c X _ h01 (H.out.below hE)).mono ?_
          rintro e w1 ⟨z, rfl, hz, hb⟩
          obtain rfl : z = true := by
            exact hz.2 ⟨(Q1.out.2 P1.out).1, (h02.uniq (Q1.out.2 P1.out).2), rfl⟩
          exact hK.out _ _ _ rfl rfl hb
        · try simp only [hf] at hK ⊢
          rw [if_pos (by rfl)]
          go_simp
          exact hK.out _ _ _ rfl rfl (Ext.refl _)
        · try simp only [hf] at hK ⊢
          rw [if_pos (by rfl)]
          go_simp
          exact hK.out _ _ _ rfl rfl (Ext.refl _)
        · have z0 := cell_below hE i0
          have z1 := cell_below hE i1
          try simp only [hf] at hK ⊢
          rw [if_pos (by rfl)]
          go_simp
          exact hK.out _ _ _ rfl rfl (Ext.refl _)
        · simp only [hf] at hK ⊢
          rw [if_pos (by rfl)]
          go_simp
          refine (to_calls f2 A2 m2 c2 X' _ (V2.out.below hE) L2.out (by omega)).mono ?_
          rintro e w1 ⟨A, t, c, rfl, h1, h2, hb⟩
          exact hK.out _ _ _ rfl ⟨_, _, _, rfl, h1, h2⟩ hb
        · try simp only [hf] at hK ⊢
          rw [if_pos (by rfl)]
          go_simp
          exact hK.out _ _ _ rfl rfl (Ext.refl _)
        · have z0 := cell_below hE h2
          have z1 := cell_below hE h3
          try simp only [hf] at hK ⊢
          rw [if_pos (by rfl)]
          go_simp
          exact hK.out _ _ _ rfl rfl (Ext.refl _)
        · obtain ⟨⟨A0, t0, c0, q1, h01, h02⟩, q2, _, q4⟩ := hf
          simp only [q1, q2, q4] at hK ⊢
          rw [if_pos (by rfl)]
          go_simp
          refine (same2_calls f2 A0 t0 c0 X' s' A' n' c' X' _ h01 (K.out.below hE)).mono ?_
          rintro e w1 ⟨z, rfl, hz, hb⟩
          obtain rfl : z = false := by
            cases z with
            | false => rfl
            | true => exact absurd (Q2.out.1 ⟨(hz.1 rfl).1, by have := (hz.1 rfl).2.1; subst this; exact h02⟩) P2.out
          exact hK.out _ _ _ rfl rfl hb
        · try simp only [hf] at hK ⊢
          rw [if_pos (by rfl)]
          go_simp
          exact hK.out _ _ _ rfl rfl (Ext.refl _)
        · try simp only [hf] at hK ⊢
          rw [if_pos (by rfl)]
          go_simp
          exact hK.out _ _ _ rfl rfl (Ext.refl _)
        · try simp only [hf] at hK ⊢
          rw [if_pos (by rfl)]
          go_simp
          exact hK.out _ _ _ rfl rfl (Ext.refl _)
        · simp only [hf] at hK ⊢
          rw [if_neg (by exact fun h => Bool.false_ne_true h)]
          exact hK.out _ _ _ rfl rfl (Ext.refl _)
        · simp only [hf] at hK ⊢
          rw [if_neg (by exact fun h => Bool.false_ne_true h)]
          exact hK.out _ _ _ rfl rfl (Ext.refl _)
        · simp only [hf] at hK ⊢
          rw [if_neg (by exact fun h => Bool.false_ne_true h)]
          exact hK.out _ _ _ rfl rfl (Ext.refl _)
      simp only [List.drop_succ_cons, List.drop_zero, List.take_succ_cons, List.take_zero, putAll, Act.put, List.setIfInBounds_toArray, List.set_cons_zero, List.set_cons_succ, Nat.reduceAdd]
      intro xs w4 hE hf
      simp only [factsAll, IsV, Nat.reduceAdd] at hf
      obtain ⟨e0, ⟨_, _, _, e1, _, _⟩, e2, e3, e4, e5, e6, e7, ⟨_, _, _, e8, _, _⟩, e9, e10, e11, e12, e13, e14, e15, e16, e17, _⟩ := hf
      simp only [e0, e1, e2, e3, e4, e5, e6, e7, e8, e9, e10, e11, e12, e13, e14, e15, e16, e17]
      have B4 := Lib.hid (below_next' B3.out hE)
      clear e0 e1 e2 e3 e4 e5 e6 e7 e8 e9 e10 e11 e12 e13 e14 e15 e16 e17 hE
      go_wp2_with fail
      go_ret
      exact ⟨false, rfl, ⟨fun h => (by cases h), fun h => absurd h.2.1 P2.out⟩, B4.out⟩
  · have P1 := Lib.hid hP1
    clear hP1
    refine wp_region_gives 18 [IsV (.agg #[.bool f1, .slice A1 m1 c1]), fun v w => ∃ A t c, v = .agg #[.bool f1, .slice A t c] ∧ Num .u64 B64 w (.slice A t c) X t ∧ IsLen B64 X t, IsV (.pointer (some ⟨w.heap.size, 0, none⟩)), IsV (.agg #[.bool s, .slice A n c]), IsV (.bool false), IsV (.bool true), IsV (.bool true), IsV (undef), IsV (undef), IsV (undef), IsV (undef), IsV (undef), IsV (undef), IsV (.bool true), IsV (.bool true), IsV (undef), IsV (undef), IsV (undef)]
      (by kernel_rfl) (by kernel_rfl) rfl ⟨pers_isV _, (fun v w w' ⟨A, t, c, e, h, l⟩ hE => ⟨A, t, c, e, h.below hE, l⟩), pers_isV _, pers_isV _, pers_isV _, pers_isV _, pers_isV _, pers_isV _, pers_isV _, pers_isV _, pers_isV _, pers_isV _, pers_isV _, pers_isV _, pers_isV _, pers_isV _, pers_isV _, pers_isV _, trivial⟩ ?_ ?_
    · simp only [List.take_succ_cons, List.take_zero, Obl, putAll, Act.put, List.setIfInBounds_toArray, List.set_cons_zero, List.set_cons_succ, Nat.reduceAdd]
      refine ⟨?_, ?_, ?_, ?_, ?_, ?_, ?_, ?_, ?_, ?_, ?_, ?_, ?_, ?_, ?_, ?_, ?_, ?_, trivial⟩
      all_goals
        intro xs w' hE hf K' hK
        simp only [factsOf, Region.binds, List.getElem?_cons_zero, List.getElem?_cons_succ, IsV, forall_const, true_and, and_true] at hf
      · have z0 := cell_below hE g0
        have z1 := cell_below hE g1
        try simp only [hf] at hK ⊢
        rw [if_pos (by rfl)]
        go_simp
        exact hK.out _ _ _ rfl rfl (Ext.refl _)
      · simp only [hf] at hK ⊢
        rw [if_pos (by rfl)]
        go_simp
        refine (to_calls f1 A1 m1 c1 X _ (V1.out.below hE) L1.out (by omega)).mono ?_
        rintro e w1 ⟨A, t, c, rfl, h1, h2, hb⟩
        exact hK.out _ _ _ rfl ⟨_, _, _, rfl, h1, h2⟩ hb
      · try simp only [hf] at hK ⊢
        rw [if_pos (by rfl)]
        go_simp
        exact hK.out _ _ _ rfl rfl (Ext.refl _)
      · have z0 := cell_below hE h0
        have z1 := cell_below hE h1
        try simp only [hf] at hK ⊢
        rw [if_pos (by rfl)]
        go_simp
        exact hK.out _ _ _ rfl rfl (Ext.refl _)
      · obtain ⟨⟨A0, t0, c0, q1, h01, h02⟩, q2, _⟩ := hf
        simp only [q1, q2] at hK ⊢
        rw [if_pos (by rfl)]
        go_simp
        refine (same2_calls f1 A0 t0 c0 X s A n c X _ h01 (H.out.below hE)).mono ?_
        rintro e w1 ⟨z, rfl, hz, hb⟩
        obtain rfl : z = false := by
          cases z with
          | false => rfl
          | true => exact absurd (Q1.out.1 ⟨(hz.1 rfl).1, by have := (hz.1 rfl).2.1; subst this; exact h02⟩) P1.out
        exact hK.out _ _ _ rfl rfl hb
      · try simp only [hf] at hK ⊢
        rw [if_pos (by rfl)]
        go_simp
        exact hK.out _ _ _ rfl rfl (Ext.refl _)
      · try simp only [hf] at hK ⊢
        rw [if_pos (by rfl)]
        go_simp
        exact hK.out _ _ _ rfl rfl (Ext.refl _)
      · simp only [hf] at hK ⊢
        rw [if_neg (by exact fun h => Bool.false_ne_true h)]
        exact hK.out _ _ _ rfl rfl (Ext.refl _)
      · simp only [hf] at hK ⊢
        rw [if_neg (by exact fun h => Bool.false_ne_true h)]
        exact hK.out _ _ _ rfl rfl (Ext.refl _)
      · simp only [hf] at hK ⊢
        rw [if_neg (by exact fun h => Bool.false_ne_true h)]
        exact hK.out _ _ _ rfl rfl (Ext.refl _)
      · simp only [hf] at hK ⊢
        rw [if_neg (by exact fun h => Bool.false_ne_true h)]
        exact hK.out _ _ _ rfl rfl (Ext.refl _)
      · simp only [hf] at hK ⊢
        rw [if_neg (by exact fun h => Bool.false_ne_true h)]
        exact hK.out _ _ _ rfl rfl (Ext.refl _)
      · simp only [hf] at hK ⊢
        rw [if_neg (by exact fun h => Bool.false_ne_true h)]
        exact hK.out _ _ _ rfl rfl (Ext.refl _)
      · try simp only [hf] at hK ⊢
        rw [if_pos (by rfl)]
        go_simp
        exact hK.out _ _ _ rfl rfl (Ext.refl _)
      · try simp only [hf] at hK ⊢
        rw [if_pos (by rfl)]
        go_simp
        exact hK.out _ _ _ rfl rfl (Ext.refl _)
      · simp only [hf] at hK ⊢
        rw [if_neg (by exact fun h => Bool.false_ne_true h)]
        exact hK.out _ _ _ rfl rfl (Ext.refl _)
      · simp only [hf] at hK ⊢
        rw [if_neg (by exact fun h => Bool.false_ne_true h)]
        exact hK.out _ _ _ rfl rfl (Ext.refl _)
      · simp only [hf] at hK ⊢
        rw [if_neg (by exact fun h => Bool.false_ne_true h)]
        exact hK.out _ _ _ rfl rfl (Ext.refl _)
    simp only [List.drop_succ_cons, List.drop_zero, List.take_succ_cons, List.take_zero, putAll, Act.put, List.setIfInBounds_toArray, List.set_cons_zero, List.set_cons_succ, Nat.reduceAdd]
    intro xs w4 hE hf
    simp only [factsAll, IsV, Nat.reduceAdd] at hf
    obtain ⟨e0, ⟨_, _, _, e1, _, _⟩, e2, e3, e4, e5, e6, e7, e8, e9, e10, e11, e12, e13, e14, e15, e16, e17, _⟩ := hf
    simp only [e0, e1, e2, e3, e4, e5, e6, e7, e8, e9, e10, e11, e12, e13, e14, e15, e16, e17]
    have B4 := Lib.hid (below_next' B3.out hE)
    clear e0 e1 e2 e3 e4 e5 e6 e7 e8 e9 e10 e11 e12 e13 e14 e15 e16 e17 hE
    go_wp2_with fail
    go_ret
    exact ⟨false, rfl, ⟨fun h => (by cases h), fun h => absurd h.1 P1.out⟩, B4.out⟩
theorem ten_one (X : Nat) : Lib.decDigits X = [49] ↔ X = 1 := by
  constructor
  · intro h
    have := val_decDigits X
    rw [h] at this
    exact this.symm
  · rintro rfl
    exact Lib.decDigits_one (by decide)
theorem str_app3' (x y z : List UInt8) : Value.string (((⟨x.toArray⟩ : ByteArray) ++ ⟨y.toArray⟩) ++ ⟨z.toArray⟩) = .string ⟨(x ++ (y ++ z)).toArray⟩ := by
  rw [ByteArray.mk_append_mk, ByteArray.mk_append_mk, List.append_assoc]
set_option maxHeartbeats 4000000 in
set_option maxRecDepth 100000 in
theorem refRtext_calls (s : Bool) (A : Option Addr) (n c X : Nat) (s' : Bool) (A' : Option Addr) (n' c' X' : Nat) (w : World) (h : Num .u64 B64 w (.slice A n c) X n) (k : Num .u64 B64 w (.slice A' n' c') X' n') (hn : n ≤ 100) (hn' : n' ≤ 100) (hs : s' = false) (hX : 0 < X') :
    Calls Tryz.prog 21 #[.agg #[.bool s, .slice A n c, .bool s', .slice A' n' c']] w fun e w' => e = .returned (.string ⟨(ratText (sgn s X) X').toArray⟩) ∧ Below w.heap.size w w' := by
  have H := Lib.hid h
  have K := Lib.hid k
  obtain ⟨tx, htx⟩ : ∃ tx, tx = Lib.itoa (sgn s X) := ⟨_, rfl⟩
  have htl : tx.length ≤ 6500 := by rw [htx]; have := itoa_len s h.lt; omega
  obtain ⟨ty, hty⟩ : ∃ ty, ty = Lib.itoa (sgn s' X') := ⟨_, rfl⟩
  have htl2 : ty.length ≤ 6500 := by rw [hty]; have := itoa_len s' k.lt; omega
  have tc := Lib.hid (fun w v h => refText_calls v (sgn s X) (4 * n) w h (by omega))
  have uc := Lib.hid (fun w v h => refText_calls v (sgn s' X') (4 * n') w h (by omega))
  rw [← htx] at tc
  rw [← hty] at uc
  have hone : Hid (ty = [49] ↔ X' = 1) := by rw [hty, hs, itoa_pos]; exact ten_one X'
  have hfin : Hid (ratText (sgn s X) X' = if X' = 1 then tx else tx ++ ([47] ++ ty)) := by
    show _ = _
    rw [ratText, ← htx, hty, hs, itoa_pos]
    rfl
  clear h k htx hty hs hX
  go_enter Tryz.func21, Tryz.ntmps21
  go_wp2_with fail
  have B0 : Below w.heap.size w (w.alloc (.cells #[.bool s, .slice A n c, .bool s', .slice A' n' c'] 26)) := (Below.refl _ _).alloc (Nat.le_refl _) _
  obtain ⟨d0, d1, d2, d3⟩ := cells4 (w := w) (s := s) (A := A) (n := n) (c := c) (s' := s') (A' := A') (n' := n') (c' := c') (t := 26)
  refine (fromz_calls _ (sgn s X) n _ (AInt.mk (H.out.below B0)) (by omega)).mono ?_
  rintro e w1 ⟨v1, rfl, hv, hb⟩
  have B1 := Lib.hid (below_next' B0 hb)
  have V1 := Lib.hid hv
  replace d2 := cell_below hb d2
  replace d3 := cell_below hb d3
  clear hv hb B0 d0 d1
  go_wp2_with fail
  refine (tc.out _ _ V1.out).mono ?_
  rintro e w2 ⟨rfl, hb⟩
  simp only [str]
  have B2 := Lib.hid (below_next' B1.out hb)
  replace d2 := cell_below hb d2
  replace d3 := cell_below hb d3
  clear hb B1 V1 tc
  go_wp2_with fail
  refine (fromz_calls _ (sgn s' X') n' _ (AInt.mk (K.out.below B2.out)) (by omega)).mono ?_
  rintro e w3 ⟨v3, rfl, hv, hb⟩
  have B3 := Lib.hid (below_next' B2.out hb)
  have V3 := Lib.hid hv
  clear hv hb B2 d2 d3
  go_wp2_with fail
  refine (uc.out _ _ V3.out).mono ?_
  rintro e w4 ⟨rfl, hb⟩
  simp only [str]
  have B4 := Lib.hid (below_next' B3.out hb)
  clear hb B3 V3 uc
  by_cases h1 : X' = 1
  · have e1 : (ty == [49]) = true := by simp [hone.out.2 h1]
    have hf : Hid (ratText (sgn s X) X' = tx) := by show _ = _; rw [hfin.out, if_pos h1]
    clear h1
    go_wp2_with fail
    go_ret
    exact ⟨by rw [hf.out]; rfl, B4.out⟩
  · have e1 : (ty == [49]) = false := by simp; intro e; exact h1 (hone.out.1 e)
    have hf : Hid (ratText (sgn s X) X' = tx ++ ([47] ++ ty)) := by show _ = _; rw [hfin.out, if_neg h1]
    clear h1
    go_wp2_with fail
    go_ret
    exact ⟨by rw [hf.out]; exact congrArg Ending.returned (str_app3' tx [47] ty), B4.out⟩
end Go.Proofs.YtmobnjlbbhhedaaGreatDoor
