/- The walk of the statement NatSums. -/
import Derived.Test.YtmkpeihcchdjcaaDoorAwk1
import Derived.Test.YtmkpeihcchdjcaaDoorCode
import Derived.Test.YtmkpeihcchdjcaaDoorNatG
import Derived.Test.YtmkpeihcchdjcaaDoorRefC
import Derived.Test.YtmkpeihcchdjcaaDoorRefN
import Derived.Test.YtmkpeihcchdjcaaDoorMemB
set_option linter.unusedVariables false
set_option linter.unusedSimpArgs false
namespace Go.Proofs.YtmkpeihcchdjcaaDoor
open Go.RowKit

theorem below_next {w w1 w2 : World} (h : Below w.heap.size w w1) (k : Below w1.heap.size w1 w2) : Below w.heap.size w w2 := h.trans (k.mono h.size)
theorem lim16 {X n : Nat} (hx : X < B64 ^ n) : ∀ m, IsLen B16 X m → m ≤ 4 * n := fun m hm => hm.le (by rw [B64_pow] at hx; exact hx)
theorem lim16s {X Y n m : Nat} (hx : X < B64 ^ n) (hy : Y < B64 ^ m) (hn : n ≤ 100) (hm : m ≤ 100) : ∀ k, IsLen B16 (X + Y) k → k ≤ 40000 := fun k hk => by
  have h1 := Nat.lt_of_lt_of_le (add_lt_pow (by decide) hx hy) (Nat.pow_le_pow_right B64_pos (show max n m + 1 ≤ 101 by omega))
  have := lim16 h1 k hk
  omega

set_option maxHeartbeats 4000000 in
set_option maxRecDepth 100000 in
theorem natSums_walk (a : Option Addr) (n c : Nat) (b : Option Addr) (m d : Nat) (X Y : Nat) (w : World) (h : Num .u64 B64 w (.slice a n c) X n) (k : Num .u64 B64 w (.slice b m d) Y m) (hnil : a = none → c = 0) (hG : Handle w) :
    Calls Tryd.prog 6 #[.slice a n c, .slice b m d] w fun e w' => e = .returned (.bool true) ∧ Below w.heap.size w w' := by
  have H := Lib.hid h
  have K := Lib.hid k
  have G := Lib.hid hG
  obtain ⟨_, _, e1, hc1, hc2⟩ := h.form
  cases e1
  obtain ⟨_, _, e1, hd1, hd2⟩ := k.form
  cases e1
  clear h k hG
  by_cases hg : n ≤ 100 ∧ m ≤ 100
  · obtain ⟨hn, hm⟩ := hg
    go_enter Tryd.func6, Tryd.ntmps6
    go_wp2_with fail
    refine (awake1_calls w).mono ?_
    rintro e w1 ⟨rfl, hb⟩
    have B2 : Hid (Below w.heap.size w w1) := hb
    replace H := Lib.hid (H.out.below hb)
    replace K := Lib.hid (K.out.below hb)
    replace G := Lib.hid (G.out.below hb)
    clear hb 
    have HC : Hid (∀ ad, a = some ad → ∀ j, j < n → (w1.alloc (.cells #[] 22)).cell? (ad.add j) = some (.int .u64 (dig B64 X (0 + j) : Nat))) := by
      intro ad ha j hj
      obtain ⟨ad', e, hcell⟩ := (H.out.below ((Below.refl _ w1).alloc (Nat.le_refl _) _)).cell hj
      rw [ha] at e
      cases e
      rw [Nat.zero_add]
      exact hcell
    have hno : Hid (a = none → n = 0 ∧ c = 0) := fun ha => ⟨(by
      rcases Nat.eq_zero_or_pos n with h | h
      · exact h
      · obtain ⟨ad, e, _⟩ := H.out.cell h
        rw [ha] at e
        cases e), hnil ha⟩
    clear hnil
    go_wp2_with (at_builtin; refine wpList_append_OwnDn _ rfl (.tmp 20) (.tmp 21) 42 22 rfl .u64 B64 8 Tryd.underlying42 info64 w1.heap.size (.slice (some ⟨w1.heap.size, 0, none⟩) 0 0) X 0 n rfl (OwnD.empty w1 _ (Nat.le_refl _) X) a c rfl hno.out HC.out (by omega) (by omega) (by simp) ?_; intro v' w2 ho hgr; rw [Nat.zero_add] at ho; have ho' := Lib.hid ho; have hgr' := Lib.hid hgr; clear ho hgr)
    have hb : Below w1.heap.size w1 w2 := ((Below.refl _ _).alloc (Nat.le_refl _) _).grown hgr'.out (by simp) (by simp [Value.ownBlock])
    have B3 : Hid (Below w.heap.size w w2) := below_next B2.out hb
    have O := Lib.hid (ho'.out.num' B64_pos H.out.lt)
    replace H := Lib.hid (H.out.below hb)
    replace K := Lib.hid (K.out.below hb)
    replace G := Lib.hid (G.out.below hb)
    clear hb ho' hgr' B2 HC hno
    refine (digits_calls _ X n _ H.out (by omega)).mono ?_
    rintro e w3 ⟨XA, xm, xc, rfl, hx1, hx2, hx3, hb⟩
    have B4 : Hid (Below w.heap.size w w3) := below_next B3.out hb
    replace H := Lib.hid (H.out.below hb)
    replace K := Lib.hid (K.out.below hb)
    replace O := Lib.hid (O.out.below hb)
    replace G := Lib.hid (G.out.below hb)
    have HX := Lib.hid hx1
    have LX := Lib.hid hx2
    clear hb hx1 hx2 B3
    go_wp2_with fail
    refine (digits_calls _ Y m _ K.out (by omega)).mono ?_
    rintro e w4 ⟨YA, ym, yc, rfl, hx1, hx2, hy3, hb⟩
    have B5 : Hid (Below w.heap.size w w4) := below_next B4.out hb
    replace H := Lib.hid (H.out.below hb)
    replace K := Lib.hid (K.out.below hb)
    replace O := Lib.hid (O.out.below hb)
    replace HX := Lib.hid (HX.out.below hb)
    replace G := Lib.hid (G.out.below hb)
    have HY := Lib.hid hx1
    have LY := Lib.hid hx2
    clear hb hx1 hx2 B4
    go_wp2_with fail
    refine (natPlain_calls _ n X _ O.out).mono ?_
    rintro e w' ⟨PA, pm, rfl, rfl, _, hx1, hx2⟩
    have HP := Lib.hid hx1
    have LP := Lib.hid hx2
    clear hx1 hx2
    go_wp2_with fail
    refine (limbs_calls _ X xm _ HX.out (fun q hq => by have := hq.uniq LX.out; omega)).mono ?_
    rintro e w5 ⟨v1, t1, rfl, hx1, hx2, hb⟩
    have B6 : Hid (Below w.heap.size w w5) := below_next B5.out hb
    replace H := Lib.hid (H.out.below hb)
    replace K := Lib.hid (K.out.below hb)
    replace O := Lib.hid (O.out.below hb)
    replace HX := Lib.hid (HX.out.below hb)
    replace HY := Lib.hid (HY.out.below hb)
    replace HP := Lib.hid (HP.out.below hb)
    replace G := Lib.hid (G.out.below hb)
    have HT := Lib.hid hx1
    have LT := Lib.hid hx2
    clear hb hx1 hx2 B5
    go_wp2_with fail
    refine (same_calls _ _ X X pm t1 _ HP.out HT.out).mono ?_
    rintro e w' ⟨z, rfl, hz, nd, rfl⟩
    have B7 : Hid (Below w.heap.size w (w5.drewN nd)) := below_drewN B6.out nd
    replace H := Lib.hid (H.out.drewN nd)
    replace K := Lib.hid (K.out.drewN nd)
    replace O := Lib.hid (O.out.drewN nd)
    replace HX := Lib.hid (HX.out.drewN nd)
    replace HY := Lib.hid (HY.out.drewN nd)
    replace HP := Lib.hid (HP.out.drewN nd)
    replace HT := Lib.hid (HT.out.drewN nd)
    replace G : Hid (Handle (w5.drewN nd)) := G
    clear B6
    obtain ⟨w6, hw'⟩ : ∃ u, u = w5.drewN nd := ⟨_, rfl⟩
    rw [← hw'] at B7 H K O HX HY HP HT G ⊢
    clear hw'
    obtain rfl : z = true := hz.2 ⟨LP.out.uniq LT.out, rfl⟩
    clear hz LP LT
    clear HP HT
    go_wp2_with fail
    refine (natCmp_calls _ _ X Y n m _ O.out K.out).mono ?_
    rintro e w' ⟨rfl, nd, rfl⟩
    have B8 : Hid (Below w.heap.size w (w6.drewN nd)) := below_drewN B7.out nd
    replace H := Lib.hid (H.out.drewN nd)
    replace K := Lib.hid (K.out.drewN nd)
    replace O := Lib.hid (O.out.drewN nd)
    replace HX := Lib.hid (HX.out.drewN nd)
    replace HY := Lib.hid (HY.out.drewN nd)
    replace G : Hid (Handle (w6.drewN nd)) := G
    clear B7
    obtain ⟨w7, hw'⟩ : ∃ u, u = w6.drewN nd := ⟨_, rfl⟩
    rw [← hw'] at B8 H K O HX HY G ⊢
    clear hw'
    go_wp2_with fail
    refine (refCmp_calls _ _ X Y xm ym _ HX.out HY.out).mono ?_
    rintro e w' ⟨rfl, nd, rfl⟩
    have B9 : Hid (Below w.heap.size w (w7.drewN nd)) := below_drewN B8.out nd
    replace H := Lib.hid (H.out.drewN nd)
    replace K := Lib.hid (K.out.drewN nd)
    replace O := Lib.hid (O.out.drewN nd)
    replace HX := Lib.hid (HX.out.drewN nd)
    replace HY := Lib.hid (HY.out.drewN nd)
    replace G : Hid (Handle (w7.drewN nd)) := G
    clear B8
    obtain ⟨w8, hw'⟩ : ∃ u, u = w7.drewN nd := ⟨_, rfl⟩
    rw [← hw'] at B9 H K O HX HY G ⊢
    clear hw'
    go_wp2_with fail
    refine (natLen_calls _ X n _ O.out (by omega)).mono ?_
    rintro e w' ⟨l1, rfl, hx1, rfl⟩
    have L1 := Lib.hid hx1
    clear hx1
    go_wp2_with fail
    refine (refLen_calls _ X xm _ HX.out (by omega)).mono ?_
    rintro e w' ⟨l2, rfl, hx1, rfl⟩
    have L2 := Lib.hid hx1
    clear hx1
    obtain rfl : l2 = l1 := L2.out.uniq L1.out
    clear L1 L2
    go_wp2_with fail
    refine (natAdd_calls _ _ X Y n m _ O.out K.out (by omega) (by omega)).mono ?_
    rintro e w9 ⟨SA, sr, rfl, hx1, hx2, hb⟩
    have B10 : Hid (Below w.heap.size w w9) := below_next B9.out hb
    replace H := Lib.hid (H.out.below hb)
    replace K := Lib.hid (K.out.below hb)
    replace O := Lib.hid (O.out.below hb)
    replace HX := Lib.hid (HX.out.below hb)
    replace HY := Lib.hid (HY.out.below hb)
    replace G := Lib.hid (G.out.below hb)
    have HS := Lib.hid hx1
    have LS := Lib.hid hx2
    clear hb hx1 hx2 B9
    go_wp2_with fail
    refine (refAdd_calls _ _ X Y xm ym _ HX.out HY.out (by omega) (by omega)).mono ?_
    rintro e w10 ⟨RA, rr, rc, rfl, hx1, hx2, hb⟩
    have B11 : Hid (Below w.heap.size w w10) := below_next B10.out hb
    replace H := Lib.hid (H.out.below hb)
    replace K := Lib.hid (K.out.below hb)
    replace O := Lib.hid (O.out.below hb)
    replace HX := Lib.hid (HX.out.below hb)
    replace HY := Lib.hid (HY.out.below hb)
    replace HS := Lib.hid (HS.out.below hb)
    replace G := Lib.hid (G.out.below hb)
    have HR := Lib.hid hx1
    have LR := Lib.hid hx2
    clear hb hx1 hx2 B10
    go_wp2_with fail
    refine (limbs_calls _ (X + Y) rr _ HR.out (lim16s H.out.lt K.out.lt hn hm)).mono ?_
    rintro e w11 ⟨v2, t2, rfl, hx1, hx2, hb⟩
    have B12 : Hid (Below w.heap.size w w11) := below_next B11.out hb
    replace H := Lib.hid (H.out.below hb)
    replace K := Lib.hid (K.out.below hb)
    replace O := Lib.hid (O.out.below hb)
    replace HX := Lib.hid (HX.out.below hb)
    replace HY := Lib.hid (HY.out.below hb)
    replace HS := Lib.hid (HS.out.below hb)
    replace HR := Lib.hid (HR.out.below hb)
    replace G := Lib.hid (G.out.below hb)
    have HT := Lib.hid hx1
    have LT := Lib.hid hx2
    clear hb hx1 hx2 B11
    go_wp2_with fail
    refine (same_calls _ _ (X + Y) (X + Y) sr t2 _ HS.out HT.out).mono ?_
    rintro e w' ⟨z, rfl, hz, nd, rfl⟩
    have B13 : Hid (Below w.heap.size w (w11.drewN nd)) := below_drewN B12.out nd
    replace H := Lib.hid (H.out.drewN nd)
    replace K := Lib.hid (K.out.drewN nd)
    replace O := Lib.hid (O.out.drewN nd)
    replace HX := Lib.hid (HX.out.drewN nd)
    replace HY := Lib.hid (HY.out.drewN nd)
    replace HS := Lib.hid (HS.out.drewN nd)
    replace HR := Lib.hid (HR.out.drewN nd)
    replace HT := Lib.hid (HT.out.drewN nd)
    replace G : Hid (Handle (w11.drewN nd)) := G
    clear B12
    obtain ⟨w12, hw'⟩ : ∃ u, u = w11.drewN nd := ⟨_, rfl⟩
    rw [← hw'] at B13 H K O HX HY HS HR HT G ⊢
    clear hw'
    obtain rfl : z = true := hz.2 ⟨LS.out.uniq LT.out, rfl⟩
    clear hz LS LT LR
    clear HS HT HR
    go_wp2_with fail
    by_cases hlt : X < Y
    · refine (natSub_below _ _ X Y n m _ O.out K.out hlt).mono ?_
      rintro e w' ⟨rfl, nd, rfl⟩
      have B14 : Hid (Below w.heap.size w (w12.drewN nd)) := below_drewN B13.out nd
      replace H := Lib.hid (H.out.drewN nd)
      replace K := Lib.hid (K.out.drewN nd)
      replace O := Lib.hid (O.out.drewN nd)
      replace HX := Lib.hid (HX.out.drewN nd)
      replace HY := Lib.hid (HY.out.drewN nd)
      replace G : Hid (Handle (w12.drewN nd)) := G
      clear B13
      obtain ⟨w13, hw'⟩ : ∃ u, u = w12.drewN nd := ⟨_, rfl⟩
      rw [← hw'] at B14 H K O HX HY G ⊢
      clear hw'
      have hcl : decide (cmpN X Y < 0) = true := by
        have := cmpN_neg X Y
        simp; omega
      clear hlt
      go_wp2_with fail
      refine (refCmp_calls _ _ X Y xm ym _ HX.out HY.out).mono ?_
      rintro e w' ⟨rfl, nd, rfl⟩
      have B15 : Hid (Below w.heap.size w (w13.drewN nd)) := below_drewN B14.out nd
      replace H := Lib.hid (H.out.drewN nd)
      replace K := Lib.hid (K.out.drewN nd)
      replace O := Lib.hid (O.out.drewN nd)
      replace HX := Lib.hid (HX.out.drewN nd)
      replace HY := Lib.hid (HY.out.drewN nd)
      replace G : Hid (Handle (w13.drewN nd)) := G
      clear B14
      obtain ⟨w14, hw'⟩ : ∃ u, u = w13.drewN nd := ⟨_, rfl⟩
      rw [← hw'] at B15 H K O HX HY G ⊢
      clear hw'
      go_wp2_with fail
      refine (code_calls 8 (by omega) _ G.out).mono ?_
      rintro e w15 ⟨rfl, hb⟩
      have B16 : Hid (Below w.heap.size w w15) := below_next B15.out hb
      replace H := Lib.hid (H.out.below hb)
      replace K := Lib.hid (K.out.below hb)
      replace O := Lib.hid (O.out.below hb)
      replace HX := Lib.hid (HX.out.below hb)
      replace HY := Lib.hid (HY.out.below hb)
      replace G := Lib.hid (G.out.below hb)
      clear hb B15
      go_wp2_with fail
      go_ret
      exact ⟨rfl, B16.out⟩
    · refine (natSub_calls _ _ X Y n m _ O.out K.out (by omega) (by omega) (by omega)).mono ?_
      rintro e w13 ⟨DA, dr, rfl, hx1, hx2, hb⟩
      have B14 : Hid (Below w.heap.size w w13) := below_next B13.out hb
      replace H := Lib.hid (H.out.below hb)
      replace K := Lib.hid (K.out.below hb)
      replace O := Lib.hid (O.out.below hb)
      replace HX := Lib.hid (HX.out.below hb)
      replace HY := Lib.hid (HY.out.below hb)
      replace G := Lib.hid (G.out.below hb)
      have HS := Lib.hid hx1
      have LS := Lib.hid hx2
      clear hb hx1 hx2 B13
      have hcl : decide (cmpN X Y < 0) = false := by
        have := cmpN_neg X Y
        simp; omega
      go_wp2_with fail
      refine (refCmp_calls _ _ X Y xm ym _ HX.out HY.out).mono ?_
      rintro e w' ⟨rfl, nd, rfl⟩
      have B15 : Hid (Below w.heap.size w (w13.drewN nd)) := below_drewN B14.out nd
      replace H := Lib.hid (H.out.drewN nd)
      replace K := Lib.hid (K.out.drewN nd)
      replace O := Lib.hid (O.out.drewN nd)
      replace HX := Lib.hid (HX.out.drewN nd)
      replace HY := Lib.hid (HY.out.drewN nd)
      replace HS := Lib.hid (HS.out.drewN nd)
      replace G : Hid (Handle (w13.drewN nd)) := G
      clear B14
      obtain ⟨w14, hw'⟩ : ∃ u, u = w13.drewN nd := ⟨_, rfl⟩
      rw [← hw'] at B15 H K O HX HY HS G ⊢
      clear hw'
      go_wp2_with fail
      refine (refSub_calls _ _ X Y xm ym _ HX.out HY.out (by omega) (by omega)).mono ?_
      rintro e w15 ⟨RA, rr, rc, rfl, hx1, hx2, hb⟩
      have B16 : Hid (Below w.heap.size w w15) := below_next B15.out hb
      replace H := Lib.hid (H.out.below hb)
      replace K := Lib.hid (K.out.below hb)
      replace O := Lib.hid (O.out.below hb)
      replace HX := Lib.hid (HX.out.below hb)
      replace HY := Lib.hid (HY.out.below hb)
      replace HS := Lib.hid (HS.out.below hb)
      replace G := Lib.hid (G.out.below hb)
      have HR := Lib.hid hx1
      have LR := Lib.hid hx2
      clear hb hx1 hx2 B15
      go_wp2_with fail
      refine (limbs_calls _ (X - Y) rr _ HR.out (fun q hq => by have := lim16 (Nat.lt_of_le_of_lt (Nat.sub_le X Y) H.out.lt) q hq; omega)).mono ?_
      rintro e w16 ⟨v3, t3, rfl, hx1, hx2, hb⟩
      have B17 : Hid (Below w.heap.size w w16) := below_next B16.out hb
      replace H := Lib.hid (H.out.below hb)
      replace K := Lib.hid (K.out.below hb)
      replace O := Lib.hid (O.out.below hb)
      replace HX := Lib.hid (HX.out.below hb)
      replace HY := Lib.hid (HY.out.below hb)
      replace HS := Lib.hid (HS.out.below hb)
      replace HR := Lib.hid (HR.out.below hb)
      replace G := Lib.hid (G.out.below hb)
      have HT := Lib.hid hx1
      have LT := Lib.hid hx2
      clear hb hx1 hx2 B16
      go_wp2_with fail
      refine (same_calls _ _ (X - Y) (X - Y) dr t3 _ HS.out HT.out).mono ?_
      rintro e w' ⟨z, rfl, hz, nd, rfl⟩
      have B18 : Hid (Below w.heap.size w (w16.drewN nd)) := below_drewN B17.out nd
      replace H := Lib.hid (H.out.drewN nd)
      replace K := Lib.hid (K.out.drewN nd)
      replace O := Lib.hid (O.out.drewN nd)
      replace HX := Lib.hid (HX.out.drewN nd)
      replace HY := Lib.hid (HY.out.drewN nd)
      replace HS := Lib.hid (HS.out.drewN nd)
      replace HR := Lib.hid (HR.out.drewN nd)
      replace HT := Lib.hid (HT.out.drewN nd)
      replace G : Hid (Handle (w16.drewN nd)) := G
      clear B17
      obtain ⟨w17, hw'⟩ : ∃ u, u = w16.drewN nd := ⟨_, rfl⟩
      rw [← hw'] at B18 H K O HX HY HS HR HT G ⊢
      clear hw'
      obtain rfl : z = true := hz.2 ⟨LS.out.uniq LT.out, rfl⟩
      clear hz LS LT LR
      clear HS HT HR
      go_wp2_with fail
      refine (same_calls _ _ X X n n _ O.out H.out).mono ?_
      rintro e w' ⟨z, rfl, hz, nd, rfl⟩
      have B19 : Hid (Below w.heap.size w (w17.drewN nd)) := below_drewN B18.out nd
      replace H := Lib.hid (H.out.drewN nd)
      replace K := Lib.hid (K.out.drewN nd)
      replace O := Lib.hid (O.out.drewN nd)
      replace HX := Lib.hid (HX.out.drewN nd)
      replace HY := Lib.hid (HY.out.drewN nd)
      replace G : Hid (Handle (w17.drewN nd)) := G
      clear B18
      obtain ⟨w18, hw'⟩ : ∃ u, u = w17.drewN nd := ⟨_, rfl⟩
      rw [← hw'] at B19 H K O HX HY G ⊢
      clear hw'
      obtain rfl : z = true := hz.2 ⟨rfl, rfl⟩
      clear hz
      go_wp2_with fail
      go_ret
      exact ⟨rfl, B19.out⟩
  · have hg' : 100 < n ∨ (¬ 100 < n ∧ 100 < m) := by omega
    clear hg
    rcases hg' with h1 | ⟨h1, h2⟩
    all_goals
      go_enter Tryd.func6, Tryd.ntmps6
      go_wp2_with fail
      refine (awake1_calls w).mono ?_
      rintro e w1 ⟨rfl, hb1⟩
      have hb1' := Lib.hid hb1
      clear hb1
      go_wp2_with fail
      go_ret
      exact ⟨rfl, hb1'.out⟩
end Go.Proofs.YtmkpeihcchdjcaaDoor
