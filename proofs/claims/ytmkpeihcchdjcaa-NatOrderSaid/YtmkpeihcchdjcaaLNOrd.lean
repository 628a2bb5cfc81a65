/- The walk of the statement NatOrder. -/
import Derived.Test.YtmkpeihcchdjcaaAwk1
set_option linter.unusedVariables false
set_option linter.unusedSimpArgs false
namespace Go.Proofs.Ytmkpeihcchdjcaa
open Go.RowKit

theorem num_one_lit (w : World) : Num .u64 B64 (w.alloc (.cells #[.int .u64 1] 22)) (.slice (some ⟨w.heap.size, 0, none⟩) 1 1) 1 1 := awk_num3 w

set_option maxHeartbeats 1000000 in
set_option maxRecDepth 100000 in
theorem natOrder_walk (a : Option Addr) (n c : Nat) (b : Option Addr) (m d : Nat) (X Y : Nat) (w : World) (h : Num .u64 B64 w (.slice a n c) X n) (k : Num .u64 B64 w (.slice b m d) Y m) :
    Calls Try.prog 7 #[.slice a n c, .slice b m d] w fun e w' => e = .returned (.bool true) ∧ Below w.heap.size w w' := by
  have H := Lib.hid h
  have K := Lib.hid k
  obtain ⟨_, _, e1, hc1, hc2⟩ := h.form
  cases e1
  obtain ⟨_, _, e1, hd1, hd2⟩ := k.form
  cases e1
  clear h k
  by_cases hg : n ≤ 40 ∧ m ≤ 40
  · obtain ⟨hn, hm⟩ := hg
    go_enter Try.func7, Try.ntmps7
    go_wp2_with fail
    refine (awake1_calls w).mono ?_
    rintro e w1 ⟨rfl, hb1⟩
    have B1 := Lib.hid hb1
    replace H := Lib.hid (H.out.below hb1)
    replace K := Lib.hid (K.out.below hb1)
    clear hb1
    go_wp2_with fail
    refine (natAdd_calls _ _ X Y n m w1 H.out K.out (by omega) (by omega)).mono ?_
    rintro e w2 ⟨S, r, rfl, hS, hlS, hb⟩
    have hr : r ≤ 41 := hlS.le (Nat.lt_of_lt_of_le (add_lt_pow (by decide) H.out.lt K.out.lt) (Nat.pow_le_pow_right B64_pos (by omega)))
    have B2 : Hid (Below w.heap.size w w2) := B1.out.trans (hb.mono B1.out.size)
    replace H := Lib.hid (H.out.below hb)
    replace K := Lib.hid (K.out.below hb)
    have HS := Lib.hid hS
    clear hb hS hlS
    go_wp2_with fail
    refine (natLen_calls _ (X + Y) r w2 HS.out (by omega)).mono ?_
    rintro e w' ⟨l, rfl, hl, rfl⟩
    have hl64 : l ≤ 64 * 41 := len2_le hl (Nat.lt_of_lt_of_le HS.out.lt (Nat.pow_le_pow_right B64_pos hr))
    have hl' := Lib.hid hl
    clear hl
    go_wp2_with fail
    refine (natShl_calls _ 1 l 1 _ (num_one_lit w2) (by omega) (fun a ha => by have := ha.le (show 1 < B64 ^ 1 by decide); omega)).mono ?_
    rintro e w3 ⟨P, p, rfl, hP, hlP, hb⟩
    rw [Nat.one_mul] at hP hlP
    have hp : p ≤ 42 := hlP.le (two_pow_lt (by omega))
    have hb0 : Below w2.heap.size w2 w3 := ((Below.refl _ w2).alloc (Nat.le_refl _) _).trans (hb.mono (by simp))
    have B3 : Hid (Below w.heap.size w w3) := B2.out.trans (hb0.mono B2.out.size)
    replace H := Lib.hid (H.out.below hb0)
    replace K := Lib.hid (K.out.below hb0)
    replace HS := Lib.hid (HS.out.below hb0)
    have HP := Lib.hid hP
    clear hb hb0 hP hlP
    go_wp2_with fail
    refine (natShr_calls _ (2 ^ l) 1 p 1 w3 HP.out (by omega) rfl (by omega)).mono ?_
    rintro e w4 ⟨R, q, cR, rfl, hR, hlR, hb⟩
    have hq : q ≤ 42 := hlR.le (Nat.lt_of_le_of_lt (Nat.div_le_self _ _) (Nat.lt_of_lt_of_le HP.out.lt (Nat.pow_le_pow_right B64_pos hp)))
    have B4 : Hid (Below w.heap.size w w4) := B3.out.trans (hb.mono B3.out.size)
    replace H := Lib.hid (H.out.below hb)
    replace K := Lib.hid (K.out.below hb)
    replace HS := Lib.hid (HS.out.below hb)
    replace HP := Lib.hid (HP.out.below hb)
    have HR := Lib.hid hR
    have hlR' := Lib.hid hlR
    clear hb hR hlR
    go_wp2_with fail
    refine (natShl_calls _ (2 ^ l / 2 ^ 1) 0 q w4 HR.out (by omega) (fun a ha => by have := ha.uniq hlR'.out; omega)).mono ?_
    rintro e w5 ⟨T, t, rfl, hT, hlT, hb⟩
    rw [Nat.pow_zero, Nat.mul_one, Nat.pow_one] at hT
    have B5 : Hid (Below w.heap.size w w5) := B4.out.trans (hb.mono B4.out.size)
    replace H := Lib.hid (H.out.below hb)
    replace K := Lib.hid (K.out.below hb)
    replace HS := Lib.hid (HS.out.below hb)
    replace HP := Lib.hid (HP.out.below hb)
    have HT := Lib.hid hT
    clear hb hT hlT hlR' HR
    have c1 : decide (0 ≤ cmpN (X + Y) X) = true := by simp [cmpN_nonneg]
    have c2 : decide (cmpN (X + Y) (2 ^ l) < 0) = true := by
      have := hl'.out.1
      simp [cmpN_neg, this]
    have c4 : (cmpN X Y == wrap64 (-cmpN Y X)) = true := by
      have h1 := cmpN_range Y X
      have h2 := cmpN_swap X Y
      have h3 : wrap64 (-cmpN Y X) = cmpN X Y := by unfold wrap64; omega
      rw [h3]; simp
    have c3 : 0 < l → decide (0 ≤ cmpN (X + Y) (2 ^ l / 2)) = true := by
      intro hpos
      obtain ⟨j, rfl⟩ : ∃ j, l = j + 1 := ⟨l - 1, by omega⟩
      have h1 : 2 ^ (j + 1) / 2 = 2 ^ j := by rw [Nat.pow_succ]; omega
      have h2 : 2 ^ j ≤ X + Y := by
        apply Classical.byContradiction
        intro hlt
        have := hl'.out.2 j (by omega)
        omega
      simp [cmpN_nonneg, h1, h2]
    obtain ⟨P2, hP2⟩ : ∃ P2, P2 = 2 ^ l := ⟨_, rfl⟩
    obtain ⟨Q2, hQ2⟩ : ∃ Q2, Q2 = 2 ^ l / 2 := ⟨_, rfl⟩
    rw [← hP2] at c2 HP
    rw [← hQ2] at c3 HT
    clear hP2 hQ2 hl'
    rcases Nat.eq_zero_or_pos l with h0 | h0
    · subst h0
      clear c3
      go_wp2_with fail
      refine (natCmp_calls _ _ (X + Y) X r n w5 HS.out H.out).mono ?_
      rintro e w' ⟨rfl, n1, rfl⟩
      go_wp2_with fail
      refine (natCmp_calls _ _ (X + Y) P2 r p _ (HS.out.drewN _) (HP.out.drewN _)).mono ?_
      rintro e w' ⟨rfl, n2, rfl⟩
      go_wp2_with fail
      refine (natCmp_calls _ _ X Y n m _ (H.out.drewN _) (K.out.drewN _)).mono ?_
      rintro e w' ⟨rfl, n3, rfl⟩
      go_wp2_with fail
      refine (natCmp_calls _ _ Y X m n _ (K.out.drewN _) (H.out.drewN _)).mono ?_
      rintro e w' ⟨rfl, n4, rfl⟩
      go_wp2_with fail
      go_ret
      exact ⟨rfl, below_drewN B5.out _⟩
    · replace c3 := c3 h0
      have c3' : ((l : Int) == 0) = false := by simp; omega
      go_wp2_with fail
      refine (natCmp_calls _ _ (X + Y) X r n w5 HS.out H.out).mono ?_
      rintro e w' ⟨rfl, n1, rfl⟩
      go_wp2_with fail
      refine (natCmp_calls _ _ (X + Y) P2 r p _ (HS.out.drewN _) (HP.out.drewN _)).mono ?_
      rintro e w' ⟨rfl, n2, rfl⟩
      go_wp2_with fail
      refine (natCmp_calls _ _ (X + Y) Q2 r t _ (HS.out.drewN _) (HT.out.drewN _)).mono ?_
      rintro e w' ⟨rfl, n3, rfl⟩
      go_wp2_with fail
      refine (natCmp_calls _ _ X Y n m _ (H.out.drewN _) (K.out.drewN _)).mono ?_
      rintro e w' ⟨rfl, n4, rfl⟩
      go_wp2_with fail
      refine (natCmp_calls _ _ Y X m n _ (K.out.drewN _) (H.out.drewN _)).mono ?_
      rintro e w' ⟨rfl, n5, rfl⟩
      go_wp2_with fail
      go_ret
      exact ⟨rfl, below_drewN B5.out _⟩
  · have hg' : 40 < n ∨ (¬ 40 < n ∧ 40 < m) := by omega
    clear hg
    rcases hg' with h1 | ⟨h1, h2⟩
    all_goals
      go_enter Try.func7, Try.ntmps7
      go_wp2_with fail
      refine (awake1_calls w).mono ?_
      rintro e w1 ⟨rfl, hb1⟩
      have hb1' := Lib.hid hb1
      clear hb1
      go_wp2_with fail
      go_ret
      exact ⟨rfl, hb1'.out⟩
end Go.Proofs.Ytmkpeihcchdjcaa
