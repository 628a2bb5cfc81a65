/- The walk of outriggerref03.Gcd. -/
import Derived.Test.YtmobnjlbbhhedaaGreatDoorRefO
set_option linter.unusedVariables false
set_option linter.unusedSimpArgs false
namespace Go.Proofs.YtmobnjlbbhhedaaGreatDoor
open Go.RowKit

open Classical in
/-- The number that a slice of digits holds. -/
noncomputable def numOf16 (w : World) (v : Value) : Nat := if h : ∃ X n, Num .u32 B16 w v X n then Classical.choose h else 0
theorem numOf16_eq {w : World} {v : Value} {X n : Nat} (h : Num .u32 B16 w v X n) : numOf16 w v = X := by
  have uniq : ∀ {X Y n m : Nat}, Num .u32 B16 w v X n → Num .u32 B16 w v Y m → X = Y := by
    intro X Y n m h k
    obtain ⟨A, c, rfl, hx, h1, h2, hr⟩ := h
    obtain ⟨A', c', e, hy, k1, k2, ks⟩ := k
    cases e
    rcases Nat.eq_zero_or_pos n with rfl | h0
    · simp at hx hy; omega
    · obtain ⟨ad, ea, hc⟩ := hr h0
      obtain ⟨ad', eb, hc'⟩ := ks h0
      rw [ea] at eb
      cases eb
      refine eq_of_dig hx hy fun j hj => ?_
      have := (hc j hj).symm.trans (hc' j hj)
      simp at this
      omega
  unfold numOf16
  have hh : ∃ X n, Num .u32 B16 w v X n := ⟨X, n, h⟩
  rw [dif_pos hh]
  obtain ⟨m, hm⟩ := Classical.choose_spec hh
  exact uniq hm h

set_option maxRecDepth 100000 in
theorem refGcd_calls (v u : Value) (X Y n L : Nat) (m : Nat) (w : World) (h : Num .u32 B16 w v X n) (k : Num .u32 B16 w u Y m) (hn : n ≤ L) (hm : m ≤ L) (hL : L ≤ 10000) :
    Calls Tryz.prog 25 #[v, u] w fun e w' => ∃ A p c, e = .returned (.slice A p c) ∧ Num .u32 B16 w' (.slice A p c) (Nat.gcd X Y) p ∧ IsLen B16 (Nat.gcd X Y) p ∧ Below w.heap.size w w' := by
  have H := Lib.hid h
  have K := Lib.hid k
  clear h k
  go_enter Tryz.func25, Tryz.ntmps25
  go_wp2_with fail
  go_loopw [0, 1] (fun v0 v1 wr => ∃ P Q p q : Nat, Hid (Num .u32 B16 wr v0 P p) ∧ Hid (Num .u32 B16 wr v1 Q q) ∧ p ≤ L ∧ q ≤ L ∧ Hid (Nat.gcd P Q = Nat.gcd X Y) ∧ Hid (Below w.heap.size w wr)) (fun _ v wr => numOf16 wr v)
  case atStart => exact ⟨X, Y, n, m, H, K, hn, hm, rfl, Below.refl _ _⟩
  case round =>
    clear H K
    obtain ⟨P, Q, p, q, HP, HQ, hp, hq, hG, hbel⟩ := hrel
    go_wp2_with fail
    refine (trim_calls _ q Q wr HQ.out).mono ?_
    rintro e w' ⟨A, t, c, rfl, rfl, ht, HT, hlt⟩
    rcases Nat.eq_zero_or_pos Q with hQ | hQ
    · subst hQ
      obtain rfl : t = 0 := hlt.uniq (IsLen.zero _)
      clear hlt HT ht
      go_wp2_with fail
      refine (trim_calls _ p P wr HP.out).mono ?_
      rintro e w' ⟨C, s, d, rfl, rfl, hs, HC, hlc⟩
      have HC' := Lib.hid HC
      have hlc' := Lib.hid hlc
      clear HC hlc
      go_wp2_with fail
      go_ret
      have e : P = Nat.gcd X Y := by rw [← hG.out, Nat.gcd_zero_right]
      have f1 := HC'.out
      have f2 := hlc'.out
      rw [e] at f1 f2
      exact ⟨C, s, d, rfl, f1, f2, hbel.out⟩
    · have ht0 := hlt.pos hQ
      have hQ' := Lib.hid hQ
      clear hlt HT hQ
      go_wp2_with fail
      refine (refQuo_calls _ _ P Q p q wr HP.out HQ.out (by omega) (by omega) hQ'.out).mono ?_
      rintro e w2 ⟨v1, v2, p1, q1, rfl, _, _, hR, lR, hb⟩
      have HR := Lib.hid hR
      have hq1 : q1 ≤ q := lR.le (Nat.lt_trans (Nat.mod_lt _ hQ'.out) HQ.out.lt)
      have HQ2 := Lib.hid (HQ.out.below hb)
      have B2 : Hid (Below w.heap.size w w2) := hbel.out.trans (hb.mono hbel.out.size)
      have hG2 : Hid (Nat.gcd Q (P % Q) = Nat.gcd X Y) := by
        show _ = _
        rw [← hG.out, Nat.gcd_comm P Q, Nat.gcd_rec Q P, Nat.gcd_comm]
      clear hR lR hb
      go_wp2_with fail
      go_roundw
      case rel => exact ⟨Q, P % Q, q, q1, HQ2, HR, hq, by omega, hG2, B2⟩
      case measure =>
        rw [numOf16_eq HR.out, numOf16_eq HQ.out]
        exact Nat.mod_lt _ hQ'.out
end Go.Proofs.YtmobnjlbbhhedaaGreatDoor
