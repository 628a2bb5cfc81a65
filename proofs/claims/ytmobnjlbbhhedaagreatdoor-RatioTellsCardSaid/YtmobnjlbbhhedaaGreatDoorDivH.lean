/- The walk of split.Gcd. -/
import Derived.Test.YtmobnjlbbhhedaaGreatDoorDivG
set_option linter.unusedVariables false
set_option linter.unusedSimpArgs false
namespace Go.Proofs.YtmobnjlbbhhedaaGreatDoor
open Go.RowKit

open Classical in
/-- The number that a slice holds. -/
noncomputable def numOf (w : World) (v : Value) : Nat := if h : ∃ X n, Num .u64 B64 w v X n then Classical.choose h else 0
theorem Num.uniq {w : World} {v : Value} {X Y n m : Nat} (h : Num .u64 B64 w v X n) (k : Num .u64 B64 w v Y m) : X = Y := by
  obtain ⟨A, c, rfl, hx, h1, h2, hr⟩ := h
  obtain ⟨A', c', e, hy, k1, k2, ks⟩ := k
  cases e
  rcases Nat.eq_zero_or_pos n with rfl | h0
  · simp at hx hy; omega
  · obtain ⟨ad, ea, hc⟩ := hr h0
    obtain ⟨ad', eb, hc'⟩ := ks h0
    rw [ea] at eb
    cases eb
    refine eq_of_dig hx hy fun j hj => ?_
    have := (hc j hj).symm.trans (hc' j hj)
    simp at this
    omega
theorem numOf_eq {w : World} {v : Value} {X n : Nat} (h : Num .u64 B64 w v X n) : numOf w v = X := by
  unfold numOf
  have hh : ∃ X n, Num .u64 B64 w v X n := ⟨X, n, h⟩
  rw [dif_pos hh]
  obtain ⟨m, hm⟩ := Classical.choose_spec hh
  exact hm.uniq h

/-- Twos put aside. -/
theorem gcd_odd_mul {a b t : Nat} (hb : b % 2 = 1) : Nat.gcd (a * 2 ^ t) b = Nat.gcd a b := by
  have h1 : Nat.Coprime (2 ^ t) b := by
    apply Nat.Coprime.pow_left
    unfold Nat.Coprime
    rw [Nat.gcd_rec, hb]
    rfl
  exact Nat.Coprime.gcd_mul_right_cancel a h1
theorem gcd_twos {a b s t : Nat} (ha : a % 2 = 1) (hb : b % 2 = 1) : Nat.gcd (a * 2 ^ s) (b * 2 ^ t) = Nat.gcd a b * 2 ^ (min s t) := by
  rcases Nat.le_total s t with h | h
  · obtain ⟨d, rfl⟩ : ∃ d, t = d + s := ⟨t - s, by omega⟩
    rw [Nat.min_eq_left h, Nat.pow_add, ← Nat.mul_assoc, Nat.gcd_mul_right, Nat.gcd_comm a, gcd_odd_mul ha, Nat.gcd_comm b]
  · obtain ⟨d, rfl⟩ : ∃ d, s = d + t := ⟨s - t, by omega⟩
    rw [Nat.min_eq_right h, Nat.pow_add, ← Nat.mul_assoc, Nat.gcd_mul_right, gcd_odd_mul hb]
theorem gcd_less {a b M t : Nat} (h : b ≤ a) (hb : b % 2 = 1) (e : a - b = M * 2 ^ t) : Nat.gcd M b = Nat.gcd a b := by
  rw [← gcd_odd_mul (a := M) (t := t) hb, ← e, Nat.gcd_comm, Nat.gcd_sub_self_right h, Nat.gcd_comm]

theorem twos_uniq {M N s t : Nat} (h : M * 2 ^ s = N * 2 ^ t) (hM : M % 2 = 1) (hN : N % 2 = 1) : M = N ∧ s = t := by
  have key : ∀ {M N s d : Nat}, M * 2 ^ s = N * 2 ^ (d + s) → M % 2 = 1 → M = N ∧ d = 0 := by
    intro M N s d h hM
    rw [Nat.pow_add, ← Nat.mul_assoc] at h
    have h1 := Nat.eq_of_mul_eq_mul_right (Nat.two_pow_pos s) h
    rcases Nat.eq_zero_or_pos d with rfl | hd
    · rw [Nat.pow_zero, Nat.mul_one] at h1
      exact ⟨h1, rfl⟩
    · exfalso
      obtain ⟨e, rfl⟩ : ∃ e, d = e + 1 := ⟨d - 1, by omega⟩
      rw [Nat.pow_succ, ← Nat.mul_assoc] at h1
      omega
  rcases Nat.le_total s t with hl | hl
  · obtain ⟨d, rfl⟩ : ∃ d, t = d + s := ⟨t - s, by omega⟩
    obtain ⟨h1, h2⟩ := key h hM
    exact ⟨h1, by omega⟩
  · obtain ⟨d, rfl⟩ : ∃ d, s = d + t := ⟨s - t, by omega⟩
    obtain ⟨h1, h2⟩ := key h.symm hN
    exact ⟨h1.symm, by omega⟩

set_option maxHeartbeats 1000000 in
set_option maxRecDepth 100000 in
theorem gcd_calls (v u : Value) (X Y n m : Nat) (w : World) (h : Num .u64 B64 w v X n) (k : Num .u64 B64 w u Y m) (hn : n ≤ 900) (hm : m ≤ 900) (hT : TabAt w) :
    Calls Tryz.prog 32 #[v, u] w fun e w' => ∃ v1 r, e = .returned (.tuple #[v1, .nilIface]) ∧ Num .u64 B64 w' v1 (Nat.gcd X Y) r ∧ IsLen B64 (Nat.gcd X Y) r ∧ Below w.heap.size w w' := by
  have H := Lib.hid h
  have K := Lib.hid k
  clear h k
  have T0 := Lib.hid hT
  clear hT
  go_enter Tryz.func32, Tryz.ntmps32
  go_wp2_with fail
  refine (natPlain_calls _ n X w H.out).mono ?_
  rintro e w' ⟨A, a, rfl, rfl, ha, HA, hla⟩
  replace H := Lib.hid HA
  have LA := Lib.hid hla
  clear HA hla
  go_wp2_with fail
  refine (natPlain_calls _ m Y w K.out).mono ?_
  rintro e w' ⟨B, b, rfl, rfl, hb, HB, hlb⟩
  replace K := Lib.hid HB
  have LB := Lib.hid hlb
  clear HB hlb
  go_wp2_with fail
  refine (small_calls _ X a w H.out (by omega)).mono ?_
  rintro e w' ⟨rfl, rfl⟩
  go_wp2_with fail
  refine (small_calls _ Y b w K.out (by omega)).mono ?_
  rintro e w' ⟨rfl, rfl⟩
  by_cases ha0 : a = 0
  · subst ha0
    have e0 : Hid (X = 0) := by
      have := LA.out.1
      rw [Nat.pow_zero] at this
      show X = 0
      omega
    go_wp2_with fail
    refine (clone_calls _ Y b _ K.out (by omega)).mono ?_
    rintro e w1 ⟨cvv, rfl, hcv, hb1⟩
    have hcv' := Lib.hid (hcv.num' B64_pos K.out.lt)
    have B1 := Lib.hid hb1
    clear hcv hb1
    go_wp2_with fail
    go_ret2
    rw [e0.out, Nat.gcd_zero_left]
    exact ⟨_, b, rfl, hcv'.out, LB.out, B1.out⟩
  by_cases hb0 : b = 0
  · subst hb0
    have e0 : Hid (Y = 0) := by
      have := LB.out.1
      rw [Nat.pow_zero] at this
      show Y = 0
      omega
    go_wp2_with fail
    refine (clone_calls _ X a _ H.out (by omega)).mono ?_
    rintro e w1 ⟨cvv, rfl, hcv, hb1⟩
    have hcv' := Lib.hid (hcv.num' B64_pos H.out.lt)
    have B1 := Lib.hid hb1
    clear hcv hb1
    go_wp2_with fail
    go_ret2
    rw [e0.out, Nat.gcd_zero_right]
    exact ⟨_, a, rfl, hcv'.out, LA.out, B1.out⟩
  have hX0 : Hid (0 < X) := by
    show 0 < X
    rcases Nat.eq_zero_or_pos X with h0 | h0
    · have := LA.out.le (show X < B64 ^ 0 by rw [h0]; simp)
      omega
    · exact h0
  have hY0 : Hid (0 < Y) := by
    show 0 < Y
    rcases Nat.eq_zero_or_pos Y with h0 | h0
    · have := LB.out.le (show Y < B64 ^ 0 by rw [h0]; simp)
      omega
    · exact h0
  go_wp2_with fail
  refine (twos_calls _ X a w H.out (by omega) hX0.out T0.out).mono ?_
  rintro e w' ⟨s, M, rfl, hm1, ho1, rfl⟩
  have hs := twos_le H.out.lt hm1 ho1
  have M1 := Lib.hid hm1
  have O1 := Lib.hid ho1
  clear hm1 ho1
  go_wp2_with fail
  refine (twos_calls _ Y b w K.out (by omega) hY0.out T0.out).mono ?_
  rintro e w' ⟨t, N, rfl, hm1, ho1, rfl⟩
  have ht := twos_le K.out.lt hm1 ho1
  have M2 := Lib.hid hm1
  have O2 := Lib.hid ho1
  clear hm1 ho1
  go_wp2_with fail
  refine (odd_calls _ X a w H.out (by omega) hX0.out T0.out).mono ?_
  rintro e w1 ⟨C, r, c, M', s', rfl, hm1, ho1, HC, hlc, hb1⟩
  obtain ⟨e1, e2⟩ := twos_uniq (M1.out.symm.trans hm1) O1.out ho1
  subst e1 e2
  have HC' := Lib.hid HC
  have hr : r ≤ a := hlc.le (Nat.lt_of_le_of_lt (by rw [M1.out]; exact Nat.le_mul_of_pos_right _ (Nat.two_pow_pos _)) H.out.lt)
  have B1 := Lib.hid hb1
  clear hm1 ho1 HC hlc hb1
  go_wp2_with fail
  refine (odd_calls _ Y b w1 (K.out.below B1.out) (by omega) hY0.out (T0.out.below B1.out)).mono ?_
  rintro e w2 ⟨D, q, d, N', t', rfl, hm1, ho1, HD, hld, hb1⟩
  obtain ⟨e1, e2⟩ := twos_uniq (M2.out.symm.trans hm1) O2.out ho1
  subst e1 e2
  have HD' := Lib.hid HD
  replace HC' := Lib.hid (HC'.out.below hb1)
  have hq : q ≤ b := hld.le (Nat.lt_of_le_of_lt (by rw [M2.out]; exact Nat.le_mul_of_pos_right _ (Nat.two_pow_pos _)) K.out.lt)
  have B2 : Hid (Below w.heap.size w w2) := B1.out.trans (hb1.mono B1.out.size)
  have GG : Hid (Nat.gcd X Y = Nat.gcd M N * 2 ^ min s t) := by
    show _ = _
    rw [M1.out, M2.out, gcd_twos O1.out O2.out]
  have T2 := Lib.hid (T0.out.below B2.out)
  clear hm1 ho1 HD hld hb1
  go_wp2_with fail
  go_loopw [0, 1] (fun v0 v1 wr => ∃ P Q p q : Nat, Hid (Num .u64 B64 wr v0 P p) ∧ Hid (Num .u64 B64 wr v1 Q q) ∧ p ≤ 900 ∧ q ≤ 900 ∧ Hid (P % 2 = 1) ∧ Hid (Q % 2 = 1) ∧ Hid (Nat.gcd P Q = Nat.gcd M N) ∧ Hid (Below w.heap.size w wr) ∧ Hid (TabAt wr)) (fun v0 v1 wr => numOf wr v0 + numOf wr v1)
  case atStart => exact ⟨M, N, r, q, HC', HD', by omega, by omega, O1, O2, rfl, B2, T2⟩
  case round =>
    clear HC' HD' O1 O2 B2 T2
    obtain ⟨P, Q, p, q, HP, HQ, hp, hq, OP, OQ, hG, hbel, hT⟩ := hrel
    have BN : Hid (∀ nd, Below w.heap.size w (wr.drewN nd)) := fun nd => below_drewN hbel.out nd
    rcases Nat.lt_trichotomy P Q with hlt | heq | hlt
    · have c1 := cmpN_lt hlt
      go_wp2_with fail
      refine (natCmp_calls _ _ P Q p q wr HP.out HQ.out).mono ?_
      rw [c1]
      rintro e w3 ⟨rfl, nd, rfl⟩
      go_wp2_with fail
      refine (natCmp_calls _ _ P Q p q _ (HP.out.drewN nd) (HQ.out.drewN nd)).mono ?_
      rw [c1]
      rintro e w3 ⟨rfl, nd2, rfl⟩
      clear c1
      go_wp2_with fail
      refine (natSub_calls _ _ Q P q p _ (HQ.out.drewN _) (HP.out.drewN _) (by omega) (by omega) (by omega)).mono ?_
      rintro e w3 ⟨E, x, rfl, HE, hle, hb1⟩
      have HE' := Lib.hid HE
      have hx : x ≤ 900 := by
        have := hle.le (Nat.lt_of_le_of_lt (Nat.sub_le _ _) HQ.out.lt)
        omega
      have B3 : Hid (Below wr.heap.size wr w3) := Below.trans (below_drewN (Below.refl _ wr) _) hb1
      have T3 := Lib.hid (hT.out.below B3.out)
      have S0 : Hid (0 < Q - P) := by show 0 < _; omega
      clear HE hle hb1
      go_wp2_with fail
      refine (odd_calls _ (Q - P) x w3 HE'.out (by omega) S0.out T3.out).mono ?_
      rintro e w4 ⟨F, y, f, M3, t3, rfl, hm1, ho1, HF, hlf, hb1⟩
      have HF' := Lib.hid HF
      have hM3 : Hid (M3 ≤ Q - P) := by
        show M3 ≤ _
        rw [hm1]; exact Nat.le_mul_of_pos_right _ (Nat.two_pow_pos _)
      have hy : y ≤ 900 := by
        have := hlf.le (Nat.lt_of_le_of_lt (Nat.le_trans hM3.out (Nat.sub_le _ _)) HQ.out.lt)
        omega
      have B4 : Hid (Below wr.heap.size wr w4) := B3.out.trans (hb1.mono B3.out.size)
      have T4 := Lib.hid (hT.out.below B4.out)
      have B5 : Hid (Below w.heap.size w w4) := hbel.out.trans (B4.out.mono hbel.out.size)
      have G4 : Hid (Nat.gcd M3 P = Nat.gcd M N) := by
        show _ = _
        rw [gcd_less (Nat.le_of_lt hlt) OP.out hm1, Nat.gcd_comm Q P, hG.out]
      have O3 := Lib.hid ho1
      have HB4 := Lib.hid (HP.out.below B4.out)
      clear hm1 ho1 HF hlf hb1 T3 HE' S0
      go_wp2_with fail
      go_roundw
      case rel => exact ⟨M3, P, y, p, HF', HB4, hy, by omega, O3, OP, G4, B5, T4⟩
      case measure =>
        rw [numOf_eq HF'.out, numOf_eq HB4.out, numOf_eq HP.out, numOf_eq HQ.out]
        have := hM3.out
        have := OP.out
        have := OQ.out
        omega
    · subst heq
      have c1 := cmpN_eq (rfl : P = P)
      go_wp2_with fail
      refine (natCmp_calls _ _ P P p q wr HP.out HQ.out).mono ?_
      rw [c1]
      rintro e w3 ⟨rfl, nd, rfl⟩
      clear c1
      have emin : min (s : Int) (t : Int) = ((min s t : Nat) : Int) := by omega
      rw [emin]
      have hmin : min s t ≤ 65536 := by omega
      obtain ⟨mn, hmn⟩ : ∃ mn, mn = min s t := ⟨_, rfl⟩
      have hmn' := Lib.hid hmn
      rw [← hmn] at hmin ⊢
      clear hmn emin
      go_wp2_with fail
      refine (natShl_calls _ P mn p _ (HP.out.drewN nd) hmin (fun c hc => by have := hc.le HP.out.lt; omega)).mono ?_
      rintro e w3 ⟨E, x, rfl, HE, hle, hb1⟩
      have HE' := Lib.hid HE
      have hle' := Lib.hid hle
      have B3 : Hid (Below w.heap.size w w3) := Below.trans (BN.out nd) (hb1.mono hbel.out.size)
      clear HE hle hb1
      go_wp2_with fail
      go_ret2
      have e : Nat.gcd X Y = P * 2 ^ mn := by
        have h1 := hG.out
        rw [Nat.gcd_self] at h1
        rw [GG.out, ← h1, hmn'.out]
      rw [e]
      exact ⟨_, x, rfl, HE'.out, hle'.out, B3.out⟩
    · have c1 := cmpN_gt hlt
      go_wp2_with fail
      refine (natCmp_calls _ _ P Q p q wr HP.out HQ.out).mono ?_
      rw [c1]
      rintro e w3 ⟨rfl, nd, rfl⟩
      go_wp2_with fail
      refine (natCmp_calls _ _ P Q p q _ (HP.out.drewN nd) (HQ.out.drewN nd)).mono ?_
      rw [c1]
      rintro e w3 ⟨rfl, nd2, rfl⟩
      clear c1
      go_wp2_with fail
      refine (natSub_calls _ _ P Q p q _ (HP.out.drewN _) (HQ.out.drewN _) (by omega) (by omega) (by omega)).mono ?_
      rintro e w3 ⟨E, x, rfl, HE, hle, hb1⟩
      have HE' := Lib.hid HE
      have hx : x ≤ 900 := by
        have := hle.le (Nat.lt_of_le_of_lt (Nat.sub_le _ _) HP.out.lt)
        omega
      have B3 : Hid (Below wr.heap.size wr w3) := Below.trans (below_drewN (Below.refl _ wr) _) hb1
      have T3 := Lib.hid (hT.out.below B3.out)
      have S0 : Hid (0 < P - Q) := by show 0 < _; omega
      clear HE hle hb1
      go_wp2_with fail
      refine (odd_calls _ (P - Q) x w3 HE'.out (by omega) S0.out T3.out).mono ?_
      rintro e w4 ⟨F, y, f, M3, t3, rfl, hm1, ho1, HF, hlf, hb1⟩
      have HF' := Lib.hid HF
      have hM3 : Hid (M3 ≤ P - Q) := by
        show M3 ≤ _
        rw [hm1]; exact Nat.le_mul_of_pos_right _ (Nat.two_pow_pos _)
      have hy : y ≤ 900 := by
        have := hlf.le (Nat.lt_of_le_of_lt (Nat.le_trans hM3.out (Nat.sub_le _ _)) HP.out.lt)
        omega
      have B4 : Hid (Below wr.heap.size wr w4) := B3.out.trans (hb1.mono B3.out.size)
      have T4 := Lib.hid (hT.out.below B4.out)
      have B5 : Hid (Below w.heap.size w w4) := hbel.out.trans (B4.out.mono hbel.out.size)
      have G4 : Hid (Nat.gcd M3 Q = Nat.gcd M N) := by
        show _ = _
        rw [gcd_less (Nat.le_of_lt hlt) OQ.out hm1, hG.out]
      have O3 := Lib.hid ho1
      have HB4 := Lib.hid (HQ.out.below B4.out)
      clear hm1 ho1 HF hlf hb1 T3 HE' S0
      go_wp2_with fail
      go_roundw
      case rel => exact ⟨M3, Q, y, q, HF', HB4, hy, by omega, O3, OQ, G4, B5, T4⟩
      case measure =>
        rw [numOf_eq HF'.out, numOf_eq HB4.out, numOf_eq HP.out, numOf_eq HQ.out]
        have := hM3.out
        have := OP.out
        have := OQ.out
        omega
end Go.Proofs.YtmobnjlbbhhedaaGreatDoor
