/- The walk of outriggerref04.Make. -/
import Derived.Test.YtmobnjlbbhhedaaGreatDoorReD
set_option linter.unusedVariables false
set_option linter.unusedSimpArgs false
namespace Go.Proofs.YtmobnjlbbhhedaaGreatDoor
open Go.RowKit

theorem CInt.put4 {g : Nat} {w : World} {v : Value} {Z : Int} {L : Nat} {b0 b0' b1 b1' : Bool} {A0 A0' A1 A1' : Option Addr} {m0 c0 m0' c0' m1 c1 m1' c1' : Nat} {t : TypeId} {fr : Nat × Nat} (h : CInt w v Z L) (hb : w.heap[g]? = some (.cells #[.bool b0, .slice A0 m0 c0, .bool b1, .slice A1 m1 c1] t fr)) :
    CInt ((((w.setCell ⟨g, 0, none⟩ (.bool b0')).setCell ⟨g, 1, none⟩ (.slice A0' m0' c0')).setCell ⟨g, 2, none⟩ (.bool b1')).setCell ⟨g, 3, none⟩ (.slice A1' m1' c1')) v Z L := by
  obtain ⟨s, A, n, c, X, e, h1, h2⟩ := h
  exact ⟨s, A, n, c, X, e, h1.put4 hb, h2⟩
set_option maxHeartbeats 4000000 in
set_option maxRecDepth 100000 in
theorem refMake_calls (v u : Value) (Y Z : Int) (L : Nat) (w : World) (h : RNum w v Y L) (k : RNum w u Z L) (hL : L ≤ 5000) (hZ : Z ≠ 0) :
    Calls Tryz.prog 18 #[v, u] w fun e w' => ∃ r, e = .returned r ∧ CRat w' r (Y.sign * Z.sign * ((Y.natAbs / Nat.gcd Y.natAbs Z.natAbs : Nat) : Int)) ((Z.natAbs / Nat.gcd Y.natAbs Z.natAbs : Nat) : Int) L ∧ Below w.heap.size w w' := by
  obtain ⟨s, A, n, c, X, rfl, h, hl, hn, hY, hp⟩ := h
  obtain ⟨s', A', n', c', X', rfl, k, kl, kn, hZ', kp⟩ := k
  have hX0 : 0 < X' := by
    rcases Nat.eq_zero_or_pos X' with h0 | h0
    · rw [h0] at hZ'
      exact absurd (by rw [hZ']; cases s' <;> rfl) hZ
    · exact h0
  have eY : Y.natAbs = X := by rw [hY]; cases s <;> simp
  have eZ : Z.natAbs = X' := by rw [hZ']; cases s' <;> simp
  have eN : Y.sign * Z.sign * ((Y.natAbs / Nat.gcd Y.natAbs Z.natAbs : Nat) : Int) = sgn (s != s') (X / Nat.gcd X X') := by
    rw [eY, eZ]
    have hs : Z.sign = if s' then -1 else 1 := by
      rw [hZ']
      cases s' with
      | true => simp only [if_true]; exact Int.sign_eq_neg_one_of_neg (by omega)
      | false => simp only [Bool.false_eq_true, if_false]; exact Int.sign_eq_one_of_pos (by omega)
    rcases Nat.eq_zero_or_pos X with h0 | h0
    · subst h0
      rw [Nat.zero_div]
      cases s <;> cases s' <;> simp [sgn]
    · have hs2 : Y.sign = if s then -1 else 1 := by
        rw [hY]
        cases s with
        | true => simp only [if_true]; exact Int.sign_eq_neg_one_of_neg (by omega)
        | false => simp only [Bool.false_eq_true, if_false]; exact Int.sign_eq_one_of_pos (by omega)
      rw [hs, hs2]
      cases s <;> cases s' <;> simp [sgn]
  rw [eN, eY, eZ]
  have H := Lib.hid h
  have K := Lib.hid k
  have HL := Lib.hid hl
  have KL := Lib.hid kl
  have hX := Lib.hid hX0
  clear h k hl kl hY hZ' hp kp eY eZ eN hZ hX0
  go_enter Tryz.func18, Tryz.ntmps18
  go_wp2_with fail
  have E := two_in w s A n c s' A' n' c' 36 (.cells #[.bool false, .slice none 0 0, .bool false, .slice none 0 0] 26)
  generalize (((w.alloc (.cells #[.bool s, .slice A n c] 36)).alloc (.cells #[.bool s', .slice A' n' c'] 36)).alloc (.cells #[.bool false, .slice none 0 0, .bool false, .slice none 0 0] 26)) = W at *
  obtain ⟨E1, E2, E3, EB, ES⟩ := E
  refine (refGcd_calls _ _ X X' n L n' _ (H.out.below EB) (K.out.below EB) hn kn (by omega)).mono ?_
  rintro e w1 ⟨GA, gp, gc, rfl, hg, lg, hb⟩
  have hG0 : Hid (0 < Nat.gcd X X') := Nat.gcd_pos_of_pos_right X hX.out
  have hgp : gp ≤ L := by
    have := lg.le (Nat.lt_of_le_of_lt (Nat.gcd_le_right X hX.out) K.out.lt)
    omega
  replace E1 := (hb.block _ (by omega)).trans E1
  replace E2 := (hb.block _ (by omega)).trans E2
  replace E3 := (hb.block _ (by omega)).trans E3
  replace EB := below_next' EB hb
  have hs1 := hb.size
  have HG := Lib.hid hg
  obtain ⟨a0, a1, _, _⟩ := kept_cells E1
  obtain ⟨b0, b1, _, _⟩ := kept_cells E2
  clear hb hg lg
  go_wp2_with fail
  refine (refQuo_calls _ _ X (Nat.gcd X X') n gp _ (H.out.below EB) HG.out (by omega) (by omega) hG0.out).mono ?_
  rintro e w2 ⟨q1, q2, p1, p2, rfl, hq, lq, _, _, hb⟩
  have hp1 : p1 ≤ L := by
    have := lq.le (Nat.lt_of_le_of_lt (Nat.div_le_self _ _) H.out.lt)
    omega
  replace E1 := (hb.block _ (by omega)).trans E1
  replace E2 := (hb.block _ (by omega)).trans E2
  replace E3 := (hb.block _ (by omega)).trans E3
  replace EB := below_next' EB hb
  replace a0 := cell_below hb a0
  replace a1 := cell_below hb a1
  replace b0 := cell_below hb b0
  replace b1 := cell_below hb b1
  replace HG := Lib.hid (HG.out.below hb)
  have HQ := Lib.hid hq
  have hs2 := hb.size
  clear hb hq lq
  go_wp2_with fail
  refine (refQuo_calls _ _ X' (Nat.gcd X X') n' gp _ (K.out.below EB) HG.out (by omega) (by omega) hG0.out).mono ?_
  rintro e w3 ⟨r1, r2, u1, u2, rfl, hr, lr, _, _, hb⟩
  have hu1 : u1 ≤ L := by
    have := lr.le (Nat.lt_of_le_of_lt (Nat.div_le_self _ _) K.out.lt)
    omega
  replace E1 := (hb.block _ (by omega)).trans E1
  replace E2 := (hb.block _ (by omega)).trans E2
  replace E3 := (hb.block _ (by omega)).trans E3
  replace EB := below_next' EB hb
  replace a0 := cell_below hb a0
  replace a1 := cell_below hb a1
  replace b0 := cell_below hb b0
  replace b1 := cell_below hb b1
  replace HQ := Lib.hid (HQ.out.below hb)
  have HR := Lib.hid hr
  have hs3 := hb.size
  clear hb hr lr HG
  go_wp2_with fail
  refine (new_calls _ _ (X / Nat.gcd X X') p1 _ HQ.out).mono ?_
  rintro e w4 ⟨v4, rfl, hv4, hb⟩
  have HV : Hid (RNum w4 v4 (sgn (s != s') (X / Nat.gcd X X')) p1) := hv4
  replace E3 := (hb.block _ (by omega)).trans E3
  replace EB := below_next' EB hb
  replace HR := Lib.hid (HR.out.below hb)
  have hs4 := hb.size
  clear hb hv4 HQ a0 a1 b0 b1 E1 E2
  go_wp2_with fail
  refine (toz_calls _ _ p1 _ HV.out (by omega)).mono ?_
  rintro e w5 ⟨v5, rfl, hv5, hb⟩
  obtain ⟨b5, A5, m5, d5, rfl⟩ := hv5.form
  have HC5 := Lib.hid hv5
  replace E3 := (hb.block _ (by omega)).trans E3
  replace EB := below_next' EB hb
  replace HR := Lib.hid (HR.out.below hb)
  have hs5 := hb.size
  clear hb hv5 HV
  go_wp2_with fail
  refine (int_calls _ (X' / Nat.gcd X X') u1 _ HR.out (by omega)).mono ?_
  rintro e w6 ⟨v6, rfl, hv6, hb⟩
  obtain ⟨b6, A6, m6, d6, rfl⟩ := hv6.form
  have HC6 := hv6
  replace HC5 := HC5.out.below hb
  replace E3 := (hb.block _ (by omega)).trans E3
  replace EB := below_next' EB hb
  clear hb hv6 HR
  obtain ⟨⟨r0, r1, r2, r3⟩, rf⟩ := kept4 E3
  have hf0 := rf 0
  have hf1 := rf 1
  have hf2 := rf 2
  have hf3 := rf 3
  obtain ⟨⟨q0, q1, q2, q3⟩, _⟩ := kept4 (put4 E3 (.bool b5) (.slice A5 m5 d5) (.bool b6) (.slice A6 m6 d6))
  have BE := Lib.hid (below4 (g := w.heap.size + 1 + 1) EB (by omega) (.bool b5) (.slice A5 m5 d5) (.bool b6) (.slice A6 m6 d6))
  have C5 := Lib.hid ((HC5.put4 (b0' := b5) (A0' := A5) (m0' := m5) (c0' := d5) (b1' := b6) (A1' := A6) (m1' := m6) (c1' := d6) E3).le hp1)
  have C6 := Lib.hid ((HC6.put4 (b0' := b5) (A0' := A5) (m0' := m5) (c0' := d5) (b1' := b6) (A1' := A6) (m1' := m6) (c1' := d6) E3).le hu1)
  clear HC5 HC6 E3 EB rf
  go_wp2_with fail
  refine bodyPost_ret (v := .agg #[.bool b5, .slice A5 m5 d5, .bool b6, .slice A6 m6 d6]) (by simp [results, Tryz.results18, go_sem, q0, q1, q2, q3]) rfl ?_
  exact ⟨_, rfl, ⟨_, _, _, _, _, _, _, _, rfl, C5.out, C6.out⟩, BE.out⟩
theorem make_num (s s' : Bool) (X X' g : Nat) (hX : 0 < X') : (sgn s X).sign * (sgn s' X').sign * ((X / g : Nat) : Int) = sgn (s != s') (X / g) := by
  have hs : (sgn s' X').sign = if s' then -1 else 1 := by
    cases s' with
    | true => simp only [if_true]; exact Int.sign_eq_neg_one_of_neg (by simp [sgn]; omega)
    | false => simp only [Bool.false_eq_true, if_false]; exact Int.sign_eq_one_of_pos (by simp [sgn]; omega)
  rcases Nat.eq_zero_or_pos X with h0 | h0
  · subst h0
    rw [Nat.zero_div]
    cases s <;> cases s' <;> simp [sgn]
  · have hs2 : (sgn s X).sign = if s then -1 else 1 := by
      cases s with
      | true => simp only [if_true]; exact Int.sign_eq_neg_one_of_neg (by simp [sgn]; omega)
      | false => simp only [Bool.false_eq_true, if_false]; exact Int.sign_eq_one_of_pos (by simp [sgn]; omega)
    rw [hs, hs2]
    cases s <;> cases s' <;> simp [sgn]
theorem natAbs_sgn (s : Bool) (X : Nat) : (sgn s X).natAbs = X := by cases s <;> simp [sgn]
theorem refMakeS_calls (v u : Value) (s s' : Bool) (X X' L : Nat) (w : World) (h : RNum w v (sgn s X) L) (k : RNum w u (sgn s' X') L) (hL : L ≤ 5000) (hX : 0 < X') :
    Calls Tryz.prog 18 #[v, u] w fun e w' => ∃ r, e = .returned r ∧ CRat w' r (sgn (s != s') (X / Nat.gcd X X')) (sgn false (X' / Nat.gcd X X')) L ∧ Below w.heap.size w w' := by
  have := refMake_calls v u (sgn s X) (sgn s' X') L w h k hL (by cases s' <;> simp [sgn] <;> omega)
  rw [natAbs_sgn, natAbs_sgn, make_num s s' X X' _ hX] at this
  exact this
end Go.Proofs.YtmobnjlbbhhedaaGreatDoor
