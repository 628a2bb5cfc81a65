/- Where the filter is sure, its turn is the exact one. No program in sight. -/
import Derived.Test.YtmkpeihcchdjcaaFltE
set_option linter.unusedVariables false
set_option linter.unusedSimpArgs false
namespace Go.Proofs.Ytmkpeihcchdjcaa

theorem abs_le_of {a b : Int} {c : Nat} (h : (a - b).natAbs ≤ c) : a.natAbs ≤ b.natAbs + c ∧ b.natAbs ≤ a.natAbs + c := by omega
/-- Two rounded numbers' product beside that of what they stand for. -/
theorem prod_near {A B P Q : Int} (hp : 9007199254740992 * (P - A).natAbs ≤ A.natAbs) (hq : 9007199254740992 * (Q - B).natAbs ≤ B.natAbs) :
    9007199254740992 * (P * Q - A * B).natAbs ≤ 3 * (A * B).natAbs := by
  have e : P * Q - A * B = (P - A) * Q + A * (Q - B) := by
    rw [Int.sub_mul, Int.mul_sub]; omega
  have h1 : ((P - A) * Q + A * (Q - B)).natAbs ≤ ((P - A) * Q).natAbs + (A * (Q - B)).natAbs := by omega
  rw [e]
  rw [Int.natAbs_mul, Int.natAbs_mul] at h1
  have hQ : Q.natAbs ≤ 2 * B.natAbs := by omega
  have h2 : 9007199254740992 * ((P - A).natAbs * Q.natAbs) ≤ A.natAbs * (2 * B.natAbs) := by
    rw [← Nat.mul_assoc]
    exact Nat.mul_le_mul hp hQ
  have h3 : 9007199254740992 * (A.natAbs * (Q - B).natAbs) ≤ A.natAbs * B.natAbs := by
    rw [Nat.mul_left_comm]
    exact Nat.mul_le_mul_left _ hq
  rw [Int.natAbs_mul]
  have e2 : A.natAbs * (2 * B.natAbs) = 2 * (A.natAbs * B.natAbs) := Nat.mul_left_comm ..
  rw [e2] at h2
  generalize A.natAbs * B.natAbs = x at *
  generalize (P - A).natAbs * Q.natAbs = y at *
  generalize A.natAbs * (Q - B).natAbs = z at *
  omega
/-- A rounded product beside the exact one. -/
theorem side_near {AB PQ LK : Int} {K : Nat} (h1 : 9007199254740992 * (PQ - AB).natAbs ≤ 3 * AB.natAbs) (h2 : 9007199254740992 * (LK - PQ).natAbs ≤ PQ.natAbs + 4503599627370496 * K) :
    9007199254740992 * (LK - AB).natAbs ≤ 5 * AB.natAbs + 4503599627370496 * K := by omega
theorem sum_side {l r s : Int} (h : 9007199254740992 * (s - ((l.natAbs : Int) + (r.natAbs : Int))).natAbs ≤ ((l.natAbs : Int) + (r.natAbs : Int)).natAbs) (hs : 23945242826029513411849172299223580994042798784118784 ≤ s) :
    9007199254740990 * (l.natAbs + r.natAbs) ≤ 9007199254740992 * s.natAbs ∧ 23945242826029513411849172299223580994042798784118784 ≤ 2 * (l.natAbs + r.natAbs) := by omega
/-- The difference is great enough. -/
theorem diff_side {l r s z d : Int} (h1 : 9007199254740990 * (l.natAbs + r.natAbs) ≤ 9007199254740992 * s.natAbs) (hs : 23945242826029513411849172299223580994042798784118784 ≤ s)
    (hz : 9007199254740992 * (z * 1125899906842624 - s).natAbs ≤ s.natAbs + 5070602400912917605986812821504) (hd : z ≤ d) (hd0 : 0 ≤ d) (hn : 9007199254740992 * d.natAbs ≤ 9007199254740993 * (l - r).natAbs) :
    7 * (l.natAbs + r.natAbs) ≤ 9007199254740992 * (l - r).natAbs := by omega
/-- So the signs are the same. -/
theorem sign_side {AB CE LK RK : Int} {K W : Nat} (h1 : 9007199254740992 * (LK - AB).natAbs ≤ 5 * AB.natAbs + 4503599627370496 * K) (h2 : 9007199254740992 * (RK - CE).natAbs ≤ 5 * CE.natAbs + 4503599627370496 * K)
    (h3 : 7 * (LK.natAbs + RK.natAbs) ≤ 9007199254740992 * (LK - RK).natAbs) (h4 : 23945242826029513411849172299223580994042798784118784 * K ≤ 2 * (LK.natAbs + RK.natAbs)) (hK : 0 < K) :
    sgn (AB - CE) = sgn (LK - RK) ∧ sgn (LK - RK) ≠ 0 := by
  unfold sgn
  have h5 : (LK - RK - (AB - CE)).natAbs < (LK - RK).natAbs := by omega
  clear h1 h2 h3 h4
  generalize LK - RK = X at *
  generalize AB - CE = Y at *
  rcases Int.lt_trichotomy X 0 with h | h | h
  · have h2 : Y < 0 := by omega
    rw [if_pos h, if_pos h2]; exact ⟨rfl, by omega⟩
  · omega
  · have h2 : 0 < Y := by omega
    rw [if_neg (by omega), if_neg (by omega), if_neg (by omega), if_neg (by omega)]; exact ⟨rfl, by omega⟩
theorem sgn_mul {a : Int} {K : Nat} (hK : 0 < K) : sgn (a * (K : Int)) = sgn a := by
  unfold sgn
  rcases Int.lt_trichotomy a 0 with h | h | h
  · have := Int.mul_neg_of_neg_of_pos h (show (0 : Int) < (K : Int) by omega)
    rw [if_pos h, if_pos this]
  · subst h; simp
  · have := Int.mul_pos h (show (0 : Int) < (K : Int) by omega)
    rw [if_neg (by omega), if_neg (by omega), if_neg (by omega), if_neg (by omega)]

theorem over_side {l r s : Int} {X : Nat} (h1 : 9007199254740990 * (l.natAbs + r.natAbs) ≤ 9007199254740992 * s.natAbs) (hs : s.natAbs ≤ 9007199254740992 * X)
    (hb : 23945242826029513411849172299223580994042798784118784 ≤ 2 * (l.natAbs + r.natAbs)) (hd : 9007199254740992 * (9007199254740992 * X) ≤ 9007199254740992 * (l - r).natAbs + (l - r).natAbs + 4503599627370496) :
    7 * (l.natAbs + r.natAbs) ≤ 9007199254740992 * (l - r).natAbs := by omega
theorem near_abs {d D : Int} (h : 9007199254740992 * (d - D).natAbs ≤ D.natAbs) : 9007199254740992 * d.natAbs ≤ 9007199254740993 * D.natAbs := by omega
/-- The difference of both sides, beside their sum. -/
theorem turn_great {l r s d z : Nat} (fl : isFin l) (fr : isFin r) (fs : isFin s) (hsure : sureB s = true) (hd : FR Ieee.double.sub l r d) (hs : Ieee.double.add (absB l) (absB r) = some s) (hz : FR Ieee.double.mul s 4382002437431492608 z)
    (ho : (Ieee.double.order (absB d) z == some .lt) = false) :
    7 * ((val l).natAbs + (val r).natAbs) ≤ 9007199254740992 * (val l - val r).natAbs ∧ 23945242826029513411849172299223580994042798784118784 ≤ 2 * ((val l).natAbs + (val r).natAbs) := by
  obtain ⟨al, vl⟩ := abs_read fl
  obtain ⟨ar, vr⟩ := abs_read fr
  have hsum := add_near al ar hs fs
  rw [show val (l % 9223372036854775808) = _ from vl, show val (r % 9223372036854775808) = _ from vr] at hsum
  obtain ⟨_, hsv⟩ := sure_fin hsure
  obtain ⟨hA, hB⟩ := sum_side hsum hsv
  obtain ⟨zf, hz2⟩ := part_near fs hz
  refine ⟨?_, hB⟩
  have hdd := sub_some fl fr hd
  by_cases fd : isFin d
  · have hdn := near_abs (sub_near fl fr hdd fd)
    obtain ⟨ad, vd⟩ := abs_read fd
    replace ho : (Ieee.double.order (d % 9223372036854775808) z == some .lt) = false := ho
    rw [order_fin ad zf, vd] at ho
    have hge : val z ≤ ((val d).natAbs : Int) := by
      rcases (by omega : ((val d).natAbs : Int) < val z ∨ val z ≤ ((val d).natAbs : Int)) with h | h
      · rw [Int.compare_eq_lt.2 h] at ho
        simp at ho
      · exact h
    generalize val z = Z at *
    generalize val d = D at *
    generalize val s = S at *
    exact diff_side (d := (D.natAbs : Int)) hA hsv hz2 hge (by omega) (by rw [Int.natAbs_natCast]; exact hdn)
  · obtain ⟨e, he⟩ : ∃ e, e = 2045 := ⟨_, rfl⟩
    have h1 := sub_over he fl fr hdd fd
    have h2 : (val s).natAbs ≤ 9007199254740992 * 2 ^ e := by
      rw [val_abs fs]
      exact rv_small' he fs
    exact over_side hA h2 hB h1
/-- THE PROVED BOUND. -/
theorem turn_true {ax ay bx b_y cx cy : Nat} {n : Int} (h : TurnIs ax ay bx b_y cx cy n true) :
    (isFin ax ∧ isFin ay ∧ isFin bx ∧ isFin b_y ∧ isFin cx ∧ isFin cy) ∧ n = sgn ((val ax - val cx) * (val b_y - val cy) - (val ay - val cy) * (val bx - val cx)) ∧ n ≠ 0 := by
  obtain ⟨p, q, l, u, v, r, d, s, z, a1, a2, a3, a4, a5, a6, a7, a8, a9, fp, fq, fl, fu, fv, fr, fs, hsure, ho, hn⟩ := h.yes
  obtain ⟨f1, f5⟩ := sub_fin a1 fp
  obtain ⟨f4, f6⟩ := sub_fin a2 fq
  obtain ⟨f2, _⟩ := sub_fin a4 fu
  obtain ⟨f3, _⟩ := sub_fin a5 fv
  refine ⟨⟨f1, f2, f3, f4, f5, f6⟩, ?_⟩
  obtain ⟨hg, hb⟩ := turn_great fl fr fs hsure a7 a8 a9 ho
  have n1 := prod_near (sub_near f1 f5 a1 fp) (sub_near f4 f6 a2 fq)
  have n2 := prod_near (sub_near f2 f6 a4 fu) (sub_near f3 f5 a5 fv)
  have m1 := side_near n1 (mul_near fp fq a3 fl)
  have m2 := side_near n2 (mul_near fu fv a6 fr)
  have hK := K1074_pos
  have g1 := Nat.mul_le_mul_right K1074 hg
  have g2 := Nat.mul_le_mul_right K1074 hb
  have e1 : (val l).natAbs * K1074 = (val l * (K1074 : Int)).natAbs := natAbs_mul_nat ..
  have e2 : (val r).natAbs * K1074 = (val r * (K1074 : Int)).natAbs := natAbs_mul_nat ..
  have e3 : (val l - val r).natAbs * K1074 = (val l * (K1074 : Int) - val r * (K1074 : Int)).natAbs := by rw [natAbs_mul_nat, Int.sub_mul]
  rw [Nat.mul_assoc, Nat.add_mul, Nat.mul_assoc, e1, e2, e3] at g1
  rw [Nat.mul_assoc, Nat.add_mul, e1, e2] at g2
  obtain ⟨s1, s2⟩ := sign_side (W := 0) m1 m2 g1 g2 hK
  rw [← Int.sub_mul, sgn_mul hK] at s1 s2
  have hsd : n = sgn (val l - val r) := hn.trans (sub_sign fl fr (sub_some fl fr a7))
  rw [s1, hsd]
  exact ⟨rfl, s2⟩
end Go.Proofs.Ytmkpeihcchdjcaa
