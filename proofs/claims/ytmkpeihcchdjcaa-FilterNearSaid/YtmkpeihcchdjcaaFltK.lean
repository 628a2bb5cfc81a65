/- A far that is sure is near the exact square. No program in sight. -/
import Derived.Test.YtmkpeihcchdjcaaFltJ
set_option linter.unusedVariables false
set_option linter.unusedSimpArgs false
namespace Go.Proofs.Ytmkpeihcchdjcaa

theorem sq_nonneg (a : Int) : 0 ≤ a * a := by
  rcases (by omega : 0 ≤ a ∨ a ≤ 0) with h | h
  · exact Int.mul_nonneg h h
  · exact Int.mul_nonneg_of_nonpos_of_nonpos h h
theorem near_lin {AA CC mK nK sK : Int} {K : Nat} (hA : 0 ≤ AA) (hC : 0 ≤ CC) (h1 : 9007199254740992 * (mK - AA).natAbs ≤ 5 * AA.natAbs + 4503599627370496 * K) (h2 : 9007199254740992 * (nK - CC).natAbs ≤ 5 * CC.natAbs + 4503599627370496 * K)
    (h3 : 9007199254740992 * (sK - (mK + nK)).natAbs ≤ (mK + nK).natAbs) (h4 : 23945242826029513411849172299223580994042798784118784 * (K : Int) ≤ sK) :
    1125899906842624 * (sK - (AA + CC)).natAbs ≤ (AA + CC).natAbs := by omega
theorem far_near {ax ay bx b_y f : Nat} (h : FarIs ax ay bx b_y f true) :
    (isFin ax ∧ isFin ay ∧ isFin bx ∧ isFin b_y) ∧ isFin f ∧ f < 18446744073709551616 ∧
    1125899906842624 * (val f * (K1074 : Int) - ((val ax - val bx) * (val ax - val bx) + (val ay - val b_y) * (val ay - val b_y))).natAbs ≤ ((val ax - val bx) * (val ax - val bx) + (val ay - val b_y) * (val ay - val b_y)).natAbs := by
  obtain ⟨x, y, m, n, s, ht, ⟨_, _, h⟩ | ⟨hs, rfl, _⟩⟩ := h
  · cases h
  · obtain ⟨f1, f2, f3, f4, fx, fy, fm, fn, fs⟩ := ht.fins hs
    refine ⟨⟨f1, f2, f3, f4⟩, fs, ht.s1.2, ?_⟩
    have px := sub_near f1 f3 (ht.x1.fin fx) fx
    have py := sub_near f2 f4 (ht.y1.fin fy) fy
    have n1 := side_near (prod_near px px) (mul_near fx fx (ht.m1.fin fm) fm)
    have n2 := side_near (prod_near py py) (mul_near fy fy (ht.n1.fin fn) fn)
    have hsum := add_near fm fn (ht.s1.fin fs) fs
    have h3 := Nat.mul_le_mul_right K1074 hsum
    rw [Nat.mul_assoc, natAbs_mul_nat, natAbs_mul_nat, Int.sub_mul, Int.add_mul] at h3
    have h4 := Int.mul_le_mul_of_nonneg_right (sure_fin hs).2 (show (0 : Int) ≤ (K1074 : Int) by omega)
    exact near_lin (sq_nonneg _) (sq_nonneg _) n1 n2 h3 h4
theorem FarIs.no {ax ay bx b_y f : Nat} (h : FarIs ax ay bx b_y f false) : f = 0 := by
  obtain ⟨x, y, m, n, s, ht, ⟨_, rfl, _⟩ | ⟨_, _, h⟩⟩ := h
  · rfl
  · cases h
end Go.Proofs.Ytmkpeihcchdjcaa
