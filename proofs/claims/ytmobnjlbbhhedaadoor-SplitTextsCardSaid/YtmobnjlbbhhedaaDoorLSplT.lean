/- The walk of the statement SplitTexts. -/
import Derived.Test.YtmobnjlbbhhedaaDoorAwk3
import Derived.Test.YtmobnjlbbhhedaaDoorTextB
import Derived.Test.YtmobnjlbbhhedaaDoorRefV
import Derived.Test.YtmobnjlbbhhedaaDoorRefP
import Derived.Test.YtmobnjlbbhhedaaDoorCode
set_option linter.unusedVariables false
set_option linter.unusedSimpArgs false
namespace Go.Proofs.YtmobnjlbbhhedaaDoor
open Go.RowKit

theorem digits_bound20 {X n : Nat} (h : X < B64 ^ n) : (Lib.decDigits X).length ≤ 20 * n + 1 := by
  have h4 : B64 ^ n ≤ 10 ^ (20 * n) := by
    rw [Nat.pow_mul]
    exact Nat.pow_le_pow_left (by decide) _
  have h6 : 10 ^ (20 * n) ≤ 10 ^ (20 * n + 1) := Nat.pow_le_pow_right (by decide) (by omega)
  exact len_of_lt (by omega)
/-- A number with a sign, plainly told. -/
theorem sgn_plain (s : Bool) (X : Nat) : sgn s X = sgn (s && decide (0 < X)) X := by
  rcases Nat.eq_zero_or_pos X with h | h
  · subst h; cases s <;> rfl
  · simp [h]
theorem RNum.open {w : World} {v : Value} {s : Bool} {X L : Nat} (h : RNum w v (sgn s X) L) :
    ∃ A m c, v = .agg #[.bool (s && decide (0 < X)), .slice A m c] ∧ Num .u32 B16 w (.slice A m c) X m ∧ IsLen B16 X m ∧ m ≤ L := by
  obtain ⟨ng, A, m, c, Y, rfl, h1, h2, h3, h4, h5⟩ := h
  have hXY : X = Y ∧ ng = (s && decide (0 < X)) := by
    unfold sgn at h4
    cases s <;> cases ng
    · simp at h4 ⊢; omega
    · have := h5 rfl
      simp at h4; omega
    · simp at h4 ⊢; omega
    · have := h5 rfl
      simp at h4 ⊢; omega
  obtain ⟨rfl, rfl⟩ := hXY
  exact ⟨A, m, c, rfl, h1, h2, h3⟩
theorem text_len {X n : Nat} (s : Bool) (h : X < B64 ^ n) : (Lib.itoa (sgn s X)).length ≤ 20 * n + 2 := by
  have := digits_bound20 h
  rw [itoa_sgn]
  split
  · simp; omega
  · omega
/-- A number's own text is read again. -/
theorem text_apart (s : Bool) (X : Nat) : negOf (Lib.itoa (sgn s X)) = (s && decide (0 < X)) ∧ bodyOf (Lib.itoa (sgn s X)) = Lib.decDigits X ∧ GoodText (s && decide (0 < X)) (Lib.decDigits X) := by
  have hp : (s && decide (0 < X)) = true → 0 < X := by simp
  have := itoa_apart (s && decide (0 < X)) X hp
  rw [← sgn_plain] at this
  exact ⟨this.1, this.2, good_decDigits _ _ hp⟩

set_option maxHeartbeats 4000000 in
set_option maxRecDepth 100000 in
theorem splitTexts_walk (s : Bool) (a : Option Addr) (n c X : Nat) (L : List UInt8) (w : World) (h : Num .u64 B64 w (.slice a n c) X n) (hH : Handle w)
    (hT : TabAt w) (htab : Lib.TabIs Tryd.prog w "internal/strconv.uint64pow10" .u64 Lib.pow10Tab) :
    Calls Tryd.prog 7 #[.agg #[.bool s, .slice a n c], .string ⟨L.toArray⟩] w fun e w' => e = .returned (.bool true) ∧ Below w.heap.size w w' := by
  have H := Lib.hid h
  have T := Lib.hid hT
  have TT := Lib.hid (Lib.tabBelow_of_tabIs htab)
  have TW := Lib.hid (Lib.tabBelow_of_tabIs htab)
  have HH := Lib.hid hH
  obtain ⟨_, _, e1, hc1, hc2⟩ := h.form
  cases e1
  clear h hT htab hH
  have hLs : (⟨L.toArray⟩ : ByteArray).size = L.length := by simp [ByteArray.size]
  by_cases hg : n ≤ 20 ∧ L.length ≤ 400
  · obtain ⟨hn, hL⟩ := hg
    go_enter Tryd.func7, Tryd.ntmps7
    go_wp2_with fail
    have BA : Hid (∀ t, Below w.heap.size w (w.alloc (.cells #[.bool s, .slice a n c] t))) := fun t => (Below.refl _ _).alloc (Nat.le_refl _) _
    have CA : Hid (∀ t, (w.alloc (.cells #[.bool s, .slice a n c] t)).cell? ⟨w.heap.size, 0, none⟩ = some (.bool s) ∧ (w.alloc (.cells #[.bool s, .slice a n c] t)).cell? ⟨w.heap.size, 1, none⟩ = some (.slice a n c)) := fun t => by
      obtain ⟨a0, a1, _, _⟩ := kept_cells (alloc_at (w := w) (o := .cells #[.bool s, .slice a n c] t) rfl)
      exact ⟨a0, a1⟩
    refine (awake3_calls _ (T.out.below (BA.out _)) (TT.out _ (BA.out _))).mono ?_
    rintro e w1 ⟨rfl, hb⟩
    have B1 : Hid (Below w.heap.size w w1) := (BA.out _).trans (hb.mono (by simp))
    have cA0 := cell_below hb (CA.out _).1
    have cA1 := cell_below hb (CA.out _).2
    clear hb BA CA
    go_wp2_with fail
    refine (from_calls s a n c X _ (H.out.below B1.out) (by omega)).mono ?_
    rintro e w2 ⟨v, rfl, hR, hb⟩
    obtain ⟨xA, xm, xc, rfl, hx1, hx2, hx3⟩ := hR.open
    have B2 : Hid (Below w.heap.size w w2) := below_next B1.out hb
    have HX := Lib.hid hR
    have HX1 := Lib.hid hx1
    have HX2 := Lib.hid hx2
    have cA0' : ∀ o, (w2.alloc o).cell? ⟨w.heap.size, 0, none⟩ = some (.bool s) := fun o => cell_below ((Below.refl _ _).alloc (Nat.le_refl _) _) (cell_below hb cA0)
    have cA1' : ∀ o, (w2.alloc o).cell? ⟨w.heap.size, 1, none⟩ = some (.slice a n c) := fun o => cell_below ((Below.refl _ _).alloc (Nat.le_refl _) _) (cell_below hb cA1)
    obtain ⟨s2, hs2⟩ : ∃ s2, s2 = (s && decide (0 < X)) := ⟨_, rfl⟩
    have hs2' := Lib.hid hs2
    rw [← hs2] at HX
    rw [← hs2]
    have Bx : Hid (∀ o, Below w2.heap.size w2 (w2.alloc o)) := fun o => (Below.refl _ _).alloc (Nat.le_refl _) _
    have CX : Hid (∀ t, (w2.alloc (.cells #[.bool s2, .slice xA xm xc] t)).cell? ⟨w2.heap.size, 0, none⟩ = some (.bool s2) ∧ (w2.alloc (.cells #[.bool s2, .slice xA xm xc] t)).cell? ⟨w2.heap.size, 1, none⟩ = some (.slice xA xm xc)) := fun t => by
      obtain ⟨a0, a1, _, _⟩ := kept_cells (alloc_at (w := w2) (o := .cells #[.bool s2, .slice xA xm xc] t) rfl)
      exact ⟨a0, a1⟩
    obtain ⟨tx, htx⟩ : ∃ tx, tx = Lib.itoa (sgn s X) := ⟨_, rfl⟩
    have htl : tx.length ≤ 600 := by
      rw [htx]
      have := text_len s H.out.lt
      omega
    have hta := text_apart s X
    rw [← htx, ← hs2] at hta
    have tc := Lib.hid (fun w h ht => text_calls s a c X n w h (by omega) ht)
    have rc := Lib.hid (fun w v h => refText_calls v (sgn s X) (4 * n) w h (by omega))
    rw [← htx] at tc rc
    have pc : Hid (∀ w, Calls Tryd.prog 24 #[.string ⟨tx.toArray⟩] w fun e w' => ∃ A r, e = .returned (.tuple #[.agg #[.bool s2, .slice A r r], .nilIface]) ∧ Num .u64 B64 w' (.slice A r r) X r ∧ IsLen B64 X r ∧ Below w.heap.size w w') := fun w => by
      refine (parse_calls tx htl w).mono ?_
      rintro e w' ⟨hb, hc⟩
      rw [hta.1, hta.2.1, val_decDigits] at hc
      rcases hc with ⟨_, A, r, rfl, h1, h2⟩ | ⟨h1, _⟩
      · exact ⟨A, r, rfl, h1, h2, hb⟩
      · exact absurd hta.2.2 h1
    clear hR hx1 hx2 hb B1 cA0 cA1 hs2 htx hta htl
    go_wp2_with fail
    refine (tc.out _ (H.out.below (B2.out.trans ((Bx.out _).mono B2.out.size))) (TW.out _ (B2.out.trans ((Bx.out _).mono B2.out.size)))).mono ?_
    rintro e w3 ⟨rfl, hb⟩
    simp only [str]
    have cX0 := cell_below hb (CX.out _).1
    have cX1 := cell_below hb (CX.out _).2
    have hb2 : Below w2.heap.size w2 w3 := (Bx.out _).trans (hb.mono (by simp))
    have B3 : Hid (Below w.heap.size w w3) := below_next B2.out hb2
    replace HX := Lib.hid (HX.out.below hb2)
    replace HX1 := Lib.hid (HX1.out.below hb2)
    clear hb hb2 B2 CX Bx cA0' cA1'
    go_wp2_with fail
    refine (pc.out _).mono ?_
    rintro e w4 ⟨pA, pr, rfl, hp1, hp2, hb⟩
    have HP := Lib.hid hp1
    have LP := Lib.hid hp2
    have cX0' : ∀ o, (w4.alloc o).cell? ⟨w2.heap.size, 0, none⟩ = some (.bool s2) := fun o => cell_below ((Below.refl _ _).alloc (Nat.le_refl _) _) (cell_below hb cX0)
    have cX1' : ∀ o, (w4.alloc o).cell? ⟨w2.heap.size, 1, none⟩ = some (.slice xA xm xc) := fun o => cell_below ((Below.refl _ _).alloc (Nat.le_refl _) _) (cell_below hb cX1)
    have B4 : Hid (Below w.heap.size w w4) := below_next B3.out hb
    replace HX := Lib.hid (HX.out.below hb)
    replace HX1 := Lib.hid (HX1.out.below hb)
    have Bb : Hid (∀ o, Below w4.heap.size w4 (w4.alloc o)) := fun o => (Below.refl _ _).alloc (Nat.le_refl _) _
    clear hb hp1 hp2 B3 cX0 cX1 tc
    go_wp2_with fail
    have cB : Hid (∀ t, (w4.alloc (.cells #[.bool s2, .slice pA pr pr] t)).cell? ⟨w4.heap.size, 0, none⟩ = some (.bool s2) ∧ (w4.alloc (.cells #[.bool s2, .slice pA pr pr] t)).cell? ⟨w4.heap.size, 1, none⟩ = some (.slice pA pr pr)) := fun t => by
      obtain ⟨a0, a1, _, _⟩ := kept_cells (alloc_at (w := w4) (o := .cells #[.bool s2, .slice pA pr pr] t) rfl)
      exact ⟨a0, a1⟩
    have cB0 := (cB.out 45).1
    have cB1 := (cB.out 45).2
    have cx0 := cX0' (.cells #[.bool s2, .slice pA pr pr] 45)
    have cx1 := cX1' (.cells #[.bool s2, .slice pA pr pr] 45)
    have Bb' : Below w4.heap.size w4 (w4.alloc (.cells #[.bool s2, .slice pA pr pr] 45)) := Bb.out _
    have hsz5 : w4.heap.size < (w4.alloc (.cells #[.bool s2, .slice pA pr pr] 45)).heap.size := by simp
    generalize (w4.alloc (.cells #[.bool s2, .slice pA pr pr] 45)) = w5 at *
    have B5 : Hid (Below w.heap.size w w5) := below_next B4.out Bb'
    replace HX := Lib.hid (HX.out.below Bb')
    replace HX1 := Lib.hid (HX1.out.below Bb')
    replace HP := Lib.hid (HP.out.below Bb')
    clear Bb Bb' cX0' cX1' cB B4
    refine wp_region_gives 18 [IsV .nilIface, IsV (.bool false), IsV (.bool false), IsV (.string ⟨tx.toArray⟩), IsV (.agg #[.bool s2, .slice xA xm xc]), IsV (.string ⟨tx.toArray⟩), IsV (.bool false), IsV (.bool false), IsV (.bool false), IsV .nilIface, IsV (.bool false), IsV (.bool false), IsV (.bool false), IsV (.agg #[.bool s2, .slice pA pr pr]), IsV (.agg #[.bool s2, .slice xA xm xc]), fun v w => ∃ A t c, v = .agg #[.bool s2, .slice A t c] ∧ Num .u64 B64 w (.slice A t c) X t ∧ IsLen B64 X t, IsV (.bool true), IsV (.bool false)]
      (by kernel_rfl) (by kernel_rfl) rfl ⟨pers_isV _, pers_isV _, pers_isV _, pers_isV _, pers_isV _, pers_isV _, pers_isV _, pers_isV _, pers_isV _, pers_isV _, pers_isV _, pers_isV _, pers_isV _, pers_isV _, pers_isV _, (fun v w w' ⟨A, t, c, e, h, l⟩ hE => ⟨A, t, c, e, h.below hE, l⟩), pers_isV _, pers_isV _, trivial⟩ ?_ ?_
    · simp only [List.take_succ_cons, List.take_zero, Obl, putAll, Act.put, List.setIfInBounds_toArray, List.set_cons_zero, List.set_cons_succ, Nat.reduceAdd]
      refine ⟨?_, ?_, ?_, ?_, ?_, ?_, ?_, ?_, ?_, ?_, ?_, ?_, ?_, ?_, ?_, ?_, ?_, ?_, trivial⟩
      all_goals
        intro xs w' hE hf K hK
        simp only [factsOf, Region.binds, List.getElem?_cons_zero, List.getElem?_cons_succ, IsV, forall_const, true_and, and_true] at hf
      · try simp only [hf] at hK ⊢
        rw [if_pos (by rfl)]
        go_simp
        exact hK.out _ _ _ rfl rfl (Ext.refl _)
      · try simp only [hf] at hK ⊢
        rw [if_pos (by rfl)]
        go_simp
        exact hK.out _ _ _ rfl rfl (Ext.refl _)
      · try simp only [hf] at hK ⊢
        rw [if_pos (by rfl)]
        go_simp
        exact hK.out _ _ _ rfl rfl (Ext.refl _)
      · try simp only [hf] at hK ⊢
        rw [if_pos (by rfl)]
        go_simp
        exact hK.out _ _ _ rfl rfl (Ext.refl _)
      · have c0 := cell_below hE cx0
        have c1 := cell_below hE cx1
        simp only [hf] at hK ⊢
        rw [if_pos (by rfl)]
        go_simp
        exact hK.out _ _ _ rfl rfl (Ext.refl _)
      · simp only [hf] at hK ⊢
        rw [if_pos (by rfl)]
        go_simp
        refine (rc.out _ _ (HX.out.below hE)).mono ?_
        rintro e w1 ⟨rfl, hb⟩
        exact hK.out _ _ _ rfl rfl hb
      · try simp only [hf] at hK ⊢
        rw [if_pos (by rfl)]
        go_simp
        exact hK.out _ _ _ rfl rfl (Ext.refl _)
      · try simp only [hf] at hK ⊢
        rw [if_pos (by rfl)]
        go_simp
        exact hK.out _ _ _ rfl rfl (Ext.refl _)
      · try simp only [hf] at hK ⊢
        rw [if_pos (by rfl)]
        go_simp
        exact hK.out _ _ _ rfl rfl (Ext.refl _)
      · try simp only [hf] at hK ⊢
        rw [if_pos (by rfl)]
        go_simp
        exact hK.out _ _ _ rfl rfl (Ext.refl _)
      · try simp only [hf] at hK ⊢
        rw [if_pos (by rfl)]
        go_simp
        exact hK.out _ _ _ rfl rfl (Ext.refl _)
      · try simp only [hf] at hK ⊢
        rw [if_pos (by rfl)]
        go_simp
        exact hK.out _ _ _ rfl rfl (Ext.refl _)
      · try simp only [hf] at hK ⊢
        rw [if_pos (by rfl)]
        go_simp
        exact hK.out _ _ _ rfl rfl (Ext.refl _)
      · have c0 := cell_below hE cB0
        have c1 := cell_below hE cB1
        simp only [hf] at hK ⊢
        rw [if_pos (by rfl)]
        go_simp
        exact hK.out _ _ _ rfl rfl (Ext.refl _)
      · have c0 := cell_below hE cx0
        have c1 := cell_below hE cx1
        simp only [hf] at hK ⊢
        rw [if_pos (by rfl)]
        go_simp
        exact hK.out _ _ _ rfl rfl (Ext.refl _)
      · simp only [hf] at hK ⊢
        rw [if_pos (by rfl)]
        go_simp
        refine (to_calls s2 xA xm xc X _ (HX1.out.below hE) HX2.out (by omega)).mono ?_
        rintro e w1 ⟨A, t, c, rfl, h1, h2, hb⟩
        exact hK.out _ _ _ rfl ⟨_, _, _, rfl, h1, h2⟩ hb
      · obtain ⟨f1, ⟨A, t, c, f2, h1, h2⟩, f3⟩ := hf
        simp only [f1, f2, f3] at hK ⊢
        rw [if_pos (by rfl)]
        go_simp
        refine (same2_calls s2 pA pr pr X s2 A t c X _ (HP.out.below hE) h1).mono ?_
        rintro e w1 ⟨z, rfl, hz, hb⟩
        obtain rfl : z = true := hz.2 ⟨rfl, LP.out.uniq h2, rfl⟩
        exact hK.out _ _ _ rfl rfl hb
      · try simp only [hf] at hK ⊢
        rw [if_pos (by rfl)]
        go_simp
        exact hK.out _ _ _ rfl rfl (Ext.refl _)
    simp only [List.drop_succ_cons, List.drop_zero, List.take_succ_cons, List.take_zero, putAll, Act.put, List.setIfInBounds_toArray, List.set_cons_zero, List.set_cons_succ, Nat.reduceAdd]
    intro xs w6 hE hf
    simp only [factsAll, IsV, Nat.reduceAdd] at hf
    obtain ⟨e0, e1, e2, e3, e4, e5, e6, e7, e8, e9, e10, e11, e12, e13, e14, ⟨A6, t6, c6, e15, h6, l6⟩, e16, e17, _⟩ := hf
    simp only [e0, e1, e2, e3, e4, e5, e6, e7, e8, e9, e10, e11, e12, e13, e14, e15, e16, e17]
    have B6 : Hid (Below w.heap.size w w6) := below_next B5.out hE
    clear e0 e1 e2 e3 e4 e5 e6 e7 e8 e9 e10 e11 e12 e13 e14 e15 e16 e17 hE h6 l6 B5 HX HX1 HP LP cx0 cx1 cB0 cB1
    go_wp2_with fail
    clear rc pc
    obtain ⟨nb, hnb⟩ : ∃ nb, nb = negOf L := ⟨_, rfl⟩
    obtain ⟨D, hD⟩ : ∃ D, D = bodyOf L := ⟨_, rfl⟩
    have pq := fun w => parse_calls L (by omega) w
    have rq := fun w => refParse_calls L (by omega) w
    rw [← hnb, ← hD] at pq rq
    clear hnb hD
    by_cases hgood : GoodText nb D
    · have pg : Hid (∀ w, Calls Tryd.prog 24 #[.string ⟨L.toArray⟩] w fun e w' => ∃ A r, e = .returned (.tuple #[.agg #[.bool nb, .slice A r r], .nilIface]) ∧ Num .u64 B64 w' (.slice A r r) (val D) r ∧ IsLen B64 (val D) r ∧ Below w.heap.size w w') := fun w => by
        refine (pq w).mono ?_
        rintro e w' ⟨hb, hc⟩
        rcases hc with ⟨_, A, r, rfl, h1, h2⟩ | ⟨h1, _⟩
        · exact ⟨A, r, rfl, h1, h2, hb⟩
        · exact absurd hgood h1
      have rg : Hid (∀ w, Calls Tryd.prog 28 #[.string ⟨L.toArray⟩] w fun e w' => ∃ A m c, e = .returned (.tuple #[.agg #[.bool nb, .slice A m c], .bool true]) ∧ Num .u32 B16 w' (.slice A m c) (val D) m ∧ IsLen B16 (val D) m ∧ m ≤ 1000 ∧ Below w.heap.size w w') := fun w => by
        refine (rq w).mono ?_
        rintro e w' ⟨hb, hc⟩
        rcases hc with ⟨_, v, rfl, hR⟩ | ⟨h1, _⟩
        · obtain ⟨A, m, c, rfl, h1, h2, h3⟩ := hR.open
          have e : (nb && decide (0 < val D)) = nb := by
            cases nb with
            | false => rfl
            | true => simp [hgood.text.2 rfl]
          rw [e]
          exact ⟨A, m, c, rfl, h1, h2, h3, hb⟩
        · exact absurd hgood h1
      clear pq rq hgood
      refine (pg.out _).mono ?_
      rintro e w7 ⟨nA, nr, rfl, h1, l1, hb⟩
      have B7 : Hid (Below w.heap.size w w7) := below_next B6.out hb
      have HN := Lib.hid h1
      have LN := Lib.hid l1
      clear h1 l1 hb B6
      have Bn : Hid (∀ o, Below w7.heap.size w7 (w7.alloc o)) := fun o => (Below.refl _ _).alloc (Nat.le_refl _) _
      have cN : Hid (∀ t, (w7.alloc (.cells #[.bool nb, .slice nA nr nr] t)).cell? ⟨w7.heap.size, 0, none⟩ = some (.bool nb) ∧ (w7.alloc (.cells #[.bool nb, .slice nA nr nr] t)).cell? ⟨w7.heap.size, 1, none⟩ = some (.slice nA nr nr)) := fun t => by
        obtain ⟨a0, a1, _, _⟩ := kept_cells (alloc_at (w := w7) (o := .cells #[.bool nb, .slice nA nr nr] t) rfl)
        exact ⟨a0, a1⟩
      go_wp2_with fail
      refine (rg.out _).mono ?_
      rintro e w8 ⟨mA, mm, mc, rfl, h1, l1, hm1, hb⟩
      have cN0 := cell_below hb (cN.out _).1
      have cN1 := cell_below hb (cN.out _).2
      have hb2 : Below w7.heap.size w7 w8 := (Bn.out _).trans (hb.mono (by simp))
      have B8 : Hid (Below w.heap.size w w8) := below_next B7.out hb2
      have HM := Lib.hid h1
      have LM := Lib.hid l1
      replace HN := Lib.hid (HN.out.below hb2)
      clear h1 l1 hb hb2 B7 Bn cN
      go_wp2_with fail
      have cM : Hid (∀ t, (w8.alloc (.cells #[.bool nb, .slice mA mm mc] t)).cell? ⟨w8.heap.size, 0, none⟩ = some (.bool nb) ∧ (w8.alloc (.cells #[.bool nb, .slice mA mm mc] t)).cell? ⟨w8.heap.size, 1, none⟩ = some (.slice mA mm mc)) := fun t => by
        obtain ⟨a0, a1, _, _⟩ := kept_cells (alloc_at (w := w8) (o := .cells #[.bool nb, .slice mA mm mc] t) rfl)
        exact ⟨a0, a1⟩
      have cM0 := (cM.out 47).1
      have cM1 := (cM.out 47).2
      have Bm : Below w8.heap.size w8 (w8.alloc (.cells #[.bool nb, .slice mA mm mc] 47)) := (Below.refl _ _).alloc (Nat.le_refl _) _
      replace cN0 := cell_below Bm cN0
      replace cN1 := cell_below Bm cN1
      generalize (w8.alloc (.cells #[.bool nb, .slice mA mm mc] 47)) = w9 at *
      have B9 : Hid (Below w.heap.size w w9) := below_next B8.out Bm
      replace HN := Lib.hid (HN.out.below Bm)
      replace HM := Lib.hid (HM.out.below Bm)
      clear Bm cM B8
      refine wp_region_gives 8 [IsV .nilIface, IsV (.bool true), IsV (.bool true), IsV (.agg #[.bool nb, .slice nA nr nr]), IsV (.agg #[.bool nb, .slice mA mm mc]), fun v w => ∃ A t c, v = .agg #[.bool nb, .slice A t c] ∧ Num .u64 B64 w (.slice A t c) (val D) t ∧ IsLen B64 (val D) t, IsV (.bool true), IsV (.bool true)]
        (by kernel_rfl) (by kernel_rfl) rfl ⟨pers_isV _, pers_isV _, pers_isV _, pers_isV _, pers_isV _, (fun v w w' ⟨A, t, c, e, h, l⟩ hE => ⟨A, t, c, e, h.below hE, l⟩), pers_isV _, pers_isV _, trivial⟩ ?_ ?_
      · simp only [List.take_succ_cons, List.take_zero, Obl, putAll, Act.put, List.setIfInBounds_toArray, List.set_cons_zero, List.set_cons_succ, Nat.reduceAdd]
        refine ⟨?_, ?_, ?_, ?_, ?_, ?_, ?_, ?_, trivial⟩
        all_goals
          intro xs w' hE hf K hK
          simp only [factsOf, Region.binds, List.getElem?_cons_zero, List.getElem?_cons_succ, IsV, forall_const, true_and, and_true] at hf
        iterate 3
          · try simp only [hf] at hK ⊢
            rw [if_pos (by rfl)]
            go_simp
            exact hK.out _ _ _ rfl rfl (Ext.refl _)
        · have c0 := cell_below hE cN0
          have c1 := cell_below hE cN1
          simp only [hf] at hK ⊢
          rw [if_pos (by rfl)]
          go_simp
          exact hK.out _ _ _ rfl rfl (Ext.refl _)
        · have c0 := cell_below hE cM0
          have c1 := cell_below hE cM1
          simp only [hf] at hK ⊢
          rw [if_pos (by rfl)]
          go_simp
          exact hK.out _ _ _ rfl rfl (Ext.refl _)
        · simp only [hf] at hK ⊢
          rw [if_pos (by rfl)]
          go_simp
          refine (to_calls nb mA mm mc (val D) _ (HM.out.below hE) LM.out (by omega)).mono ?_
          rintro e w1 ⟨A, t, c, rfl, h1, h2, hb⟩
          exact hK.out _ _ _ rfl ⟨_, _, _, rfl, h1, h2⟩ hb
        · obtain ⟨f1, ⟨A, t, c, f2, h1, h2⟩, f3⟩ := hf
          simp only [f1, f2, f3] at hK ⊢
          rw [if_pos (by rfl)]
          go_simp
          refine (same2_calls nb nA nr nr (val D) nb A t c (val D) _ (HN.out.below hE) h1).mono ?_
          rintro e w1 ⟨z, rfl, hz, hb⟩
          obtain rfl : z = true := hz.2 ⟨rfl, LN.out.uniq h2, rfl⟩
          exact hK.out _ _ _ rfl rfl hb
        · simp only [hf] at hK ⊢
          rw [if_pos (by rfl)]
          go_simp
          exact hK.out _ _ _ rfl rfl (Ext.refl _)
      simp only [List.drop_succ_cons, List.drop_zero, List.take_succ_cons, List.take_zero, putAll, Act.put, List.setIfInBounds_toArray, List.set_cons_zero, List.set_cons_succ, Nat.reduceAdd]
      intro xs w10 hE hf
      simp only [factsAll, IsV, Nat.reduceAdd] at hf
      obtain ⟨e0, e1, e2, e3, e4, ⟨A6, t6, c6, e5, h6, l6⟩, e6, e7, _⟩ := hf
      simp only [e0, e1, e2, e3, e4, e5, e6, e7]
      have B10 : Hid (Below w.heap.size w w10) := below_next B9.out hE
      clear e0 e1 e2 e3 e4 e5 e6 e7 hE h6 l6 B9 HN HM LN LM cN0 cN1 cM0 cM1
      go_wp2_with fail
      go_ret
      exact ⟨rfl, B10.out⟩
    · have pb : Hid (∀ w, Calls Tryd.prog 24 #[.string ⟨L.toArray⟩] w fun e w' => e = .returned (.tuple #[.agg #[.bool false, .slice none 0 0], errN 4]) ∧ Below w.heap.size w w') := fun w => by
        refine (pq w).mono ?_
        rintro e w' ⟨hb, hc⟩
        rcases hc with ⟨h1, _⟩ | ⟨_, rfl⟩
        · exact absurd h1 hgood
        · exact ⟨rfl, hb⟩
      have rb : Hid (∀ w, Calls Tryd.prog 28 #[.string ⟨L.toArray⟩] w fun e w' => e = .returned (.tuple #[.agg #[.bool false, .slice none 0 0], .bool false]) ∧ Below w.heap.size w w') := fun w => by
        refine (rq w).mono ?_
        rintro e w' ⟨hb, hc⟩
        rcases hc with ⟨h1, _⟩ | ⟨_, rfl⟩
        · exact absurd h1 hgood
        · exact ⟨rfl, hb⟩
      clear pq rq hgood
      refine (pb.out _).mono ?_
      rintro e w7 ⟨rfl, hb⟩
      have B7 : Hid (Below w.heap.size w w7) := below_next B6.out hb
      clear hb B6
      have Bn : Hid (∀ o, Below w7.heap.size w7 (w7.alloc o)) := fun o => (Below.refl _ _).alloc (Nat.le_refl _) _
      have cN : Hid (∀ t, (w7.alloc (.cells #[.bool false, .slice none 0 0] t)).cell? ⟨w7.heap.size, 0, none⟩ = some (.bool false) ∧ (w7.alloc (.cells #[.bool false, .slice none 0 0] t)).cell? ⟨w7.heap.size, 1, none⟩ = some (.slice none 0 0)) := fun t => by
        obtain ⟨a0, a1, _, _⟩ := kept_cells (alloc_at (w := w7) (o := .cells #[.bool false, .slice none 0 0] t) rfl)
        exact ⟨a0, a1⟩
      simp only [errN]
      go_wp2_with fail
      refine (rb.out _).mono ?_
      rintro e w8 ⟨rfl, hb⟩
      have cN0 := cell_below hb (cN.out _).1
      have cN1 := cell_below hb (cN.out _).2
      have hb2 : Below w7.heap.size w7 w8 := (Bn.out _).trans (hb.mono (by simp))
      have B8 : Hid (Below w.heap.size w w8) := below_next B7.out hb2
      clear hb hb2 B7 Bn cN
      have Bm : Hid (∀ o, Below w8.heap.size w8 (w8.alloc o)) := fun o => (Below.refl _ _).alloc (Nat.le_refl _) _
      go_wp2_with fail
      refine (code_calls 4 (by omega) _ (HH.out.below (below_next B8.out (Bm.out _)))).mono ?_
      rintro e w9 ⟨rfl, hb⟩
      have hb2 : Below w8.heap.size w8 w9 := (Bm.out _).trans (hb.mono (by simp))
      replace cN0 := cell_below hb2 cN0
      replace cN1 := cell_below hb2 cN1
      have B9 : Hid (Below w.heap.size w w9) := below_next B8.out hb2
      clear hb hb2 Bm B8
      go_wp2_with fail
      refine (same2_calls false none 0 0 0 false none 0 0 0 _ (Num.nil ..) (Num.nil ..)).mono ?_
      rintro e w10 ⟨z, rfl, hz, hb⟩
      obtain rfl : z = true := hz.2 ⟨rfl, rfl, rfl⟩
      have B10 : Hid (Below w.heap.size w w10) := below_next B9.out hb
      clear hz hb B9
      go_wp2_with fail
      go_ret
      exact ⟨rfl, B10.out⟩
  · have hg' : 20 < n ∨ (¬ 20 < n ∧ 400 < L.length) := by omega
    clear hg
    have BA : Hid (∀ t, Below w.heap.size w (w.alloc (.cells #[.bool s, .slice a n c] t))) := fun t => (Below.refl _ _).alloc (Nat.le_refl _) _
    have CA : Hid (∀ t, (w.alloc (.cells #[.bool s, .slice a n c] t)).cell? ⟨w.heap.size, 0, none⟩ = some (.bool s) ∧ (w.alloc (.cells #[.bool s, .slice a n c] t)).cell? ⟨w.heap.size, 1, none⟩ = some (.slice a n c)) := fun t => by
      obtain ⟨a0, a1, _, _⟩ := kept_cells (alloc_at (w := w) (o := .cells #[.bool s, .slice a n c] t) rfl)
      exact ⟨a0, a1⟩
    rcases hg' with h1 | ⟨h1, h2⟩
    all_goals
      go_enter Tryd.func7, Tryd.ntmps7
      go_wp2_with fail
      refine (awake3_calls _ (T.out.below (BA.out _)) (TT.out _ (BA.out _))).mono ?_
      rintro e w1 ⟨rfl, hb⟩
      have B1 : Hid (Below w.heap.size w w1) := (BA.out _).trans (hb.mono (by simp))
      have cA0 := cell_below hb (CA.out _).1
      have cA1 := cell_below hb (CA.out _).2
      clear hb BA CA
      go_wp2_with fail
      go_ret
      exact ⟨rfl, B1.out⟩
theorem splitTexts_at (s : Bool) (a : Option Addr) (n c X : Nat) (t : ByteArray) (w : World) (h : Num .u64 B64 w (.slice a n c) X n) (hH : Handle w)
    (hT : TabAt w) (htab : Lib.TabIs Tryd.prog w "internal/strconv.uint64pow10" .u64 Lib.pow10Tab) :
    Calls Tryd.prog 7 #[.agg #[.bool s, .slice a n c], .string t] w fun e w' => e = .returned (.bool true) ∧ Below w.heap.size w w' := by
  have := splitTexts_walk s a n c X t.data.toList w h hH hT htab
  rwa [Lib.mk_data] at this
end Go.Proofs.YtmobnjlbbhhedaaDoor
