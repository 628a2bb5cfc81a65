/- The walks of bits.LeadingZeros64, bits.Div64. -/
import Derived.Test.YtmobnjlbbhhedaaGreatDoorDivN
import Derived.Test.YtmobnjlbbhhedaaGreatDoorLenA
import Derived.Test.YtmobnjlbbhhedaaGreatDoorMem
import Derived.Deep.QuietTactic
import Derived.BigQuiet
import Derived.IntWalk
import Derived.Laws.Bits64b
import Derived.Deep.DeepCutAuto
import Derived.Deep.CutBlock
set_option linter.unusedVariables false
set_option linter.unusedSimpArgs false
namespace Go.Proofs.YtmobnjlbbhhedaaGreatDoor
open Go.RowKit

theorem lz_calls (x : Nat) (w : World) (h0 : 0 < x) (hx : x < 18446744073709551616) :
    Calls Tryz.prog 60 #[.int .u64 x] w fun e w' => ∃ s : Nat, e = .returned (.int .i64 s) ∧ s < 64 ∧ 9223372036854775808 ≤ x * 2 ^ s ∧ x * 2 ^ s < 18446744073709551616 ∧ w = w' := by
  go_enter Tryz.func60, Tryz.ntmps60
  go_wp2_with fail
  refine (len64_calls x _ (by rw [B64_eq]; exact hx)).mono ?_
  rintro e w' ⟨n, rfl, hn, hn64, rfl⟩
  have hn0 : 0 < n := hn.pos h0
  have h1 : x * 2 ^ (64 - n) < 18446744073709551616 := by
    have e : 2 ^ n * 2 ^ (64 - n) = 18446744073709551616 := by rw [← Nat.pow_add, show n + (64 - n) = 64 by omega]
    rw [← e]
    exact Nat.mul_lt_mul_of_pos_right hn.1 (Nat.two_pow_pos _)
  have h2 : 9223372036854775808 ≤ x * 2 ^ (64 - n) := by
    have e : 2 ^ (n - 1) * 2 ^ (64 - n) = 9223372036854775808 := by rw [← Nat.pow_add, show n - 1 + (64 - n) = 63 by omega]
    rw [← e]
    refine Nat.mul_le_mul_right _ ?_
    apply Classical.byContradiction
    intro hlt
    have := hn.2 (n - 1) (by omega)
    omega
  have H : Hid (9223372036854775808 ≤ x * 2 ^ (64 - n) ∧ x * 2 ^ (64 - n) < 18446744073709551616) := ⟨h2, h1⟩
  have e1 : IntKind.i64.wrap (64 - (n : Int)) = ((64 - n : Nat) : Int) := by rw [IntWalk.i64_in _ (by omega)]; omega
  have e2 : 64 - (n : Int) = ((64 - n : Nat) : Int) := by omega
  clear h1 h2 hn
  go_wp2_with fail
  go_ret
  exact ⟨64 - n, by first | rfl | rw [e2], by omega, H.out.1, H.out.2, rfl⟩
theorem and_32 (x : Nat) (hx : x < 18446744073709551616) : bits .and .u64 (x : Int) 4294967295 = ((x % 4294967296 : Nat) : Int) := by
  have e := bits_and_u64_nat x 4294967295 hx (by omega)
  have e2 : x &&& 4294967295 = x % 4294967296 := Nat.and_two_pow_sub_one_eq_mod x 32
  rw [e2] at e
  exact e
theorem or_parts (h m s : Nat) (hm : m < 2 ^ s) (hlt : h * 2 ^ s + m < 18446744073709551616) : bits .or .u64 ((h * 2 ^ s : Nat) : Int) (m : Int) = ((h * 2 ^ s + m : Nat) : Int) := by
  rw [bits_or_u64_nat _ _ (by omega) (by omega)]
  have := Nat.two_pow_add_eq_or_of_lt hm h
  rw [Nat.mul_comm] at this
  rw [this]
theorem wrap_nat (x : Nat) (hx : x < 18446744073709551616) : IntKind.u64.wrap (x : Int) = (x : Int) := by rw [IntKind.wrap_u64]; omega

set_option maxHeartbeats 2000000 in
set_option maxRecDepth 100000 in
theorem div64_calls (hi lo y : Nat) (w : World) (hlo : lo < 18446744073709551616) (hy : y < 18446744073709551616) (hlt : hi < y) :
    Calls Tryz.prog 83 #[.int .u64 hi, .int .u64 lo, .int .u64 y] w fun e w' => e = .returned (.tuple #[.int .u64 ((hi * 18446744073709551616 + lo) / y : Nat), .int .u64 ((hi * 18446744073709551616 + lo) % y : Nat)]) ∧ ∃ nd, w' = w.drewN nd := by
  obtain ⟨Q, hQ⟩ : ∃ Q, Q = (hi * 18446744073709551616 + lo) / y := ⟨_, rfl⟩
  obtain ⟨R, hR⟩ : ∃ R, R = (hi * 18446744073709551616 + lo) % y := ⟨_, rfl⟩
  rw [← hQ, ← hR]
  have hQ' := Lib.hid hQ
  have hR' := Lib.hid hR
  clear hQ hR
  have hy0 : ((y : Int) == 0) = false := by simp; omega
  have hle : decide ((y : Int) ≤ (hi : Int)) = false := by simp; omega
  by_cases hi0 : hi = 0
  · subst hi0
    have e1 : (lo : Int) / (y : Int) = (Q : Int) := by rw [hQ'.out, Nat.zero_mul, Nat.zero_add]; simp
    have e2 : (lo : Int) % (y : Int) = (R : Int) := by rw [hR'.out, Nat.zero_mul, Nat.zero_add]; simp
    have e3 : IntKind.u64.wrap (Q : Int) = (Q : Int) := wrap_nat Q (by rw [hQ'.out, Nat.zero_mul, Nat.zero_add]; exact Nat.lt_of_le_of_lt (Nat.div_le_self _ _) hlo)
    clear hQ' hR'
    go_enter Tryz.func83, Tryz.ntmps83
    go_wp2_with fail
    go_quiet (fail)
    go_wp2_with fail
    go_ret2
    exact ⟨by rw [e2]; rfl, _, rfl⟩
  · have hi1 : ((hi : Int) == 0) = false := by simp; omega
    go_enter Tryz.func83, Tryz.ntmps83
    go_wp2_with fail
    refine (lz_calls y _ (by omega) hy).mono ?_
    rintro e w' ⟨s, rfl, hs, hn1, hn2, rfl⟩
    obtain ⟨hN, hM, hu⟩ := moved_parts hs hlo hn2 hlt
    obtain ⟨Y, hY⟩ : ∃ Y, Y = y * 2 ^ s := ⟨_, rfl⟩
    obtain ⟨M, hMe⟩ : ∃ M, M = lo / 2 ^ (64 - s) := ⟨_, rfl⟩
    obtain ⟨H, hH⟩ : ∃ H, H = hi * 2 ^ s := ⟨_, rfl⟩
    obtain ⟨L, hL⟩ : ∃ L, L = lo * 2 ^ s % 18446744073709551616 := ⟨_, rfl⟩
    rw [← hY] at hn1 hn2 hu
    rw [← hMe] at hN hM hu
    rw [← hL] at hN
    have w1 : IntKind.u64.wrap ((y : Int) * 2 ^ s) = (Y : Int) := by rw [hY, ← wrap_nat (y * 2 ^ s) (by omega)]; simp
    have w2 : IntKind.u64.wrap ((hi : Int) * 2 ^ s) = (H : Int) := by rw [hH, ← wrap_nat (hi * 2 ^ s) (by omega)]; simp
    have w3 : (lo : Int) / 2 ^ (64 - s) = (M : Int) := by rw [hMe]; simp
    have w4 : bits .or .u64 (H : Int) (M : Int) = ((H + M : Nat) : Int) := by rw [hH]; exact or_parts hi M s hM (by omega)
    have w5 : IntKind.u64.wrap ((lo : Int) * 2 ^ s) = (L : Int) := by
      rw [hL, IntKind.wrap_u64]
      have : (lo : Int) * 2 ^ s = ((lo * 2 ^ s : Nat) : Int) := by simp
      rw [this]; omega
    rw [← hH] at hN hu
    obtain ⟨u, hue⟩ : ∃ u, u = H + M := ⟨_, rfl⟩
    rw [← hue] at w4 hN hu
    have hmv := Lib.hid (moved_div (hi * 18446744073709551616 + lo) y s)
    have hN' := Lib.hid hN
    have hY' := Lib.hid hY
    have hLb : L < 18446744073709551616 := by omega
    clear hN hY hMe hH hL hue hM
    obtain ⟨y1, hy1⟩ : ∃ y1, y1 = Y / 4294967296 := ⟨_, rfl⟩
    obtain ⟨y0, hy0⟩ : ∃ y0, y0 = Y % 4294967296 := ⟨_, rfl⟩
    obtain ⟨v1, hv1⟩ : ∃ v1, v1 = L / 4294967296 := ⟨_, rfl⟩
    obtain ⟨v0, hv0⟩ : ∃ v0, v0 = L % 4294967296 := ⟨_, rfl⟩
    have a1 : (Y : Int) / 4294967296 = (y1 : Int) := by omega
    have a2 := and_32 Y (by omega)
    rw [← hy0] at a2
    have a3 : (L : Int) / 4294967296 = (v1 : Int) := by omega
    have a4 := and_32 L (by omega)
    rw [← hv0] at a4
    have hYd : Y = y1 * 4294967296 + y0 := by omega
    have b1 : 2147483648 ≤ y1 := by omega
    have b2 : y1 < 4294967296 := by omega
    have b3 : y0 < 4294967296 := by omega
    have b4 : v1 < 4294967296 := by omega
    have b5 : v0 < 4294967296 := by omega
    have hLd : L = v1 * 4294967296 + v0 := by omega
    have hu2 : u < y1 * 4294967296 + y0 := by omega
    obtain ⟨hg, hg2⟩ := guess_first (y0 := y0) (u := u) b1 b2 b4
    obtain ⟨q, hq⟩ : ∃ q, q = u / y1 := ⟨_, rfl⟩
    obtain ⟨r, hr⟩ : ∃ r, r = u % y1 := ⟨_, rfl⟩
    rw [← hq, ← hr] at hg
    rw [← hr] at hg2
    have c1 : (u : Int) / (y1 : Int) = (q : Int) := by rw [hq]; simp
    have c2 : IntKind.u64.wrap ((q : Int) * (y1 : Int)) = ((q * y1 : Nat) : Int) := by
      rw [← wrap_nat (q * y1) (by have := hg.1; omega)]; simp
    have c3 : IntKind.u64.wrap ((u : Int) - ((q * y1 : Nat) : Int)) = (r : Int) := by
      have := hg.1
      rw [← wrap_nat r (by omega)]; congr 1; omega
    have c4 := wrap_nat q (by have := guess_le b1 b3 hu2 hg; omega)
    obtain ⟨p, hp⟩ : ∃ p, p = q * y1 := ⟨_, rfl⟩
    rw [← hp] at c2 c3
    have hG := Lib.hid hg
    have hY2 := Lib.hid hYd
    have hL2 := Lib.hid hLd
    have hn1' := Lib.hid hn1
    have hn2' := Lib.hid hn2
    have BB : Hid (2147483648 ≤ y1 ∧ y1 < 4294967296 ∧ y0 < 4294967296 ∧ v1 < 4294967296 ∧ v0 < 4294967296 ∧ u < y1 * 4294967296 + y0) := ⟨b1, b2, b3, b4, b5, hu2⟩
    have hg2' := Lib.hid hg2
    have b0 : 0 < y1 := by omega
    clear hg hq hr hp hy1 hy0 hv1 hv0 hYd hLd hu hLb hn1 hn2 hlo hy hlt b1 b2 b3 b4 b5 hu2 hg2
    go_upto_block 0 with (fail)
    obtain ⟨Q1, hQ1⟩ : ∃ Q1, Q1 = (u * 4294967296 + v1) / (y1 * 4294967296 + y0) := ⟨_, rfl⟩
    have hQ1' := Lib.hid hQ1
    clear hQ1
    go_cut [15] (fun a wc => a = .int .u64 (Q1 : Nat) ∧ w = wc)
    case first =>
      go_wp2_with fail
      go_loop [15, 16] (fun a b => ∃ q r : Nat, a = .int .u64 q ∧ b = .int .u64 r ∧ Hid (Guess y1 y0 u v1 q r) ∧ Hid (r < 4294967296)) (fun a _ => (intOf a).toNat)
      case atStart => exact ⟨q, r, rfl, rfl, hG, hg2'⟩
      case round =>
        obtain ⟨q', r', rfl, rfl, hG', hr'⟩ := hrel
        obtain ⟨m, hm⟩ : ∃ m, m = q' * y0 := ⟨_, rfl⟩
        obtain ⟨x, hx⟩ : ∃ x, x = 4294967296 * r' := ⟨_, rfl⟩
        obtain ⟨t, ht⟩ : ∃ t, t = x + v1 := ⟨_, rfl⟩
        have D : Hid (IntKind.u64.wrap ((q' : Int) * (y0 : Int)) = (m : Int) ∧ IntKind.u64.wrap (4294967296 * (r' : Int)) = (x : Int) ∧ IntKind.u64.wrap ((x : Int) + (v1 : Int)) = (t : Int)) := by
          obtain ⟨b1, b2, b3, b4, b5, hu2⟩ := BB.out
          obtain ⟨g1, g2, g3⟩ := guess_bounds b1 b3 hu2 b4 hr'.out hG'.out
          have hr2 := hr'.out
          exact ⟨by rw [hm, ← wrap_nat (q' * y0) g2]; simp, by rw [← wrap_nat x (by omega)]; congr 1; omega, by rw [← wrap_nat t (by omega)]; congr 1; omega⟩
        have hcs : Hid ((decide ((4294967296 : Int) ≤ (q' : Int)) = true ∨ (decide ((4294967296 : Int) ≤ (q' : Int)) = false ∧ decide (t < m) = true)) ∧
            ((∃ q2 r2 : Nat, Guess y1 y0 u v1 q2 r2 ∧ q2 ≤ 4294967296 ∧ q2 < q' ∧ IntKind.u64.wrap ((q' : Int) - 1) = (q2 : Int) ∧ IntKind.u64.wrap ((r' : Int) + (y1 : Int)) = (r2 : Int) ∧ ((decide ((4294967296 : Int) ≤ (r2 : Int)) = true ∧ q2 = Q1) ∨ (decide ((4294967296 : Int) ≤ (r2 : Int)) = false ∧ r2 < 4294967296)))) ∨
            (decide ((4294967296 : Int) ≤ (q' : Int)) = false ∧ decide (t < m) = false ∧ q' = Q1)) := by
          obtain ⟨b1, b2, b3, b4, b5, hu2⟩ := BB.out
          obtain ⟨g1, g2, g3⟩ := guess_bounds b1 b3 hu2 b4 hr'.out hG'.out
          have hr2 := hr'.out
          show _ ∨ _
          rcases (by omega : (4294967296 ≤ q' ∨ (¬ 4294967296 ≤ q' ∧ t < m)) ∨ (¬ 4294967296 ≤ q' ∧ ¬ t < m)) with hc | ⟨hc, hc2⟩
          · left
            refine ⟨?_, ?_⟩
            · rcases hc with hc | ⟨hc, hc2⟩
              · left; simp; omega
              · right; constructor <;> simp <;> omega
            · obtain ⟨h1, h2⟩ := guess_next (q := q') (r := r') b3 hu2 b4 hG'.out (by omega)
              refine ⟨q' - 1, r' + y1, h2, by omega, by omega, ?_, ?_, ?_⟩
              · rw [← wrap_nat (q' - 1) (by omega)]; congr 1; omega
              · rw [← wrap_nat (r' + y1) (by omega)]; congr 1
              · by_cases hb : 4294967296 ≤ r' + y1
                · left
                  refine ⟨by simp; omega, ?_⟩
                  rw [hQ1'.out]
                  exact guess_out b3 h2 (by omega) hb
                · right
                  exact ⟨by simp; omega, by omega⟩
          · right
            refine ⟨by simp; omega, by simp; omega, ?_⟩
            rw [hQ1'.out]
            exact guess_done hG'.out (by omega)
        clear hm hx ht hG' hr'
        obtain ⟨d1, d2, d3⟩ := D.out
        rcases hcs.out with ⟨hc, q2, r2, h2, hq3, hq4, e1, e2, ⟨hb, hQe⟩ | ⟨hb, hr2⟩⟩ | ⟨hc1, hc2, hQe⟩
        · have hQe' := Lib.hid hQe
          clear hQe h2 hq3 hq4 D hcs
          rcases hc with hc | ⟨hc, hc2⟩
          all_goals
            go_wp2_with fail
            go_meet
            case rel => exact ⟨by rw [← hQe'.out], rfl⟩
        · have h2' := Lib.hid h2
          have hr2' := Lib.hid hr2
          clear h2 hq3 hr2 D hcs
          rcases hc with hc | ⟨hc, hc2⟩
          all_goals
            go_wp2_with fail
            go_round
            case rel => exact ⟨q2, r2, rfl, rfl, h2', hr2'⟩
            case measure => simp [intOf]; omega
        · have hQe' := Lib.hid hQe
          clear hQe D hcs
          go_wp2_with fail
          go_meet
          case rel => exact ⟨by rw [← hQe'.out], rfl⟩
    case rest =>
      obtain ⟨rfl, rfl⟩ := hcut
      have LL := digit_left (y := Y) (u := u) (v := v1)
      obtain ⟨u2, hu2e⟩ : ∃ u2, u2 = (u * 4294967296 + v1) % Y := ⟨_, rfl⟩
      obtain ⟨P, hP⟩ : ∃ P, P = Q1 * Y := ⟨_, rfl⟩
      obtain ⟨A, hA⟩ : ∃ A, A = u * 4294967296 % 18446744073709551616 := ⟨_, rfl⟩
      obtain ⟨A2, hA2⟩ : ∃ A2, A2 = (u * 4294967296 + v1) % 18446744073709551616 := ⟨_, rfl⟩
      obtain ⟨C, hC⟩ : ∃ C, C = P % 18446744073709551616 := ⟨_, rfl⟩
      have hQY : Hid (Q1 = (u * 4294967296 + v1) / Y) := by
        have := hQ1'.out
        rw [← hY2.out] at this
        exact this
      have FF : Hid (IntKind.u64.wrap ((u : Int) * 4294967296) = (A : Int) ∧ IntKind.u64.wrap ((A : Int) + (v1 : Int)) = (A2 : Int) ∧ IntKind.u64.wrap ((Q1 : Int) * (Y : Int)) = (C : Int) ∧ IntKind.u64.wrap ((A2 : Int) - (C : Int)) = (u2 : Int) ∧ u2 < Y ∧ Q1 < 4294967296) := by
        obtain ⟨b1, b2, b3, b4, b5, hu2⟩ := BB.out
        have hYe := hY2.out
        have hn2 := hn2'.out
        obtain ⟨l1, l2, l3, l4⟩ := LL (by rw [hYe]; exact hu2) b4
        rw [← hu2e] at l2 l4
        rw [← hQY.out, ← hP] at l2 l3
        rw [← hQY.out] at l1
        have hq : (Q1 : Int) * (Y : Int) = (P : Int) := by rw [hP]; simp
        refine ⟨?_, ?_, ?_, ?_, l4, l1⟩
        · rw [IntKind.wrap_u64, hA]; omega
        · rw [IntKind.wrap_u64, hA, hA2]; omega
        · rw [hq, IntKind.wrap_u64, hC]; omega
        · rw [IntKind.wrap_u64, hA2, hC]; omega
      have hu3 : Hid (u2 < y1 * 4294967296 + y0) := by
        show u2 < _
        rw [← hY2.out]; exact FF.out.2.2.2.2.1
      obtain ⟨f1, f2, f3, f4, f5, f6⟩ := FF.out
      have hu2e' := Lib.hid hu2e
      obtain ⟨qq, hqq⟩ : ∃ qq, qq = u2 / y1 := ⟨_, rfl⟩
      obtain ⟨rr, hrr⟩ : ∃ rr, rr = u2 % y1 := ⟨_, rfl⟩
      obtain ⟨pp, hpp⟩ : ∃ pp, pp = qq * y1 := ⟨_, rfl⟩
      have GG : Hid (Guess y1 y0 u2 v0 qq rr ∧ rr < 4294967296 ∧ (u2 : Int) / (y1 : Int) = (qq : Int) ∧ IntKind.u64.wrap ((qq : Int) * (y1 : Int)) = (pp : Int) ∧ IntKind.u64.wrap ((u2 : Int) - (pp : Int)) = (rr : Int) ∧ IntKind.u64.wrap (qq : Int) = (qq : Int)) := by
        obtain ⟨b1, b2, b3, b4, b5, hu2⟩ := BB.out
        obtain ⟨hg, hg2⟩ := guess_first (y0 := y0) (u := u2) b1 b2 b5
        rw [← hqq, ← hrr] at hg
        rw [← hrr] at hg2
        have hle := guess_le b1 b3 hu3.out hg
        have h1 := hg.1
        have h3 := hu3.out
        rw [← hpp] at h1
        refine ⟨hg, hg2, by rw [hqq]; simp, ?_, ?_, wrap_nat qq (by omega)⟩
        · rw [← wrap_nat pp (by omega), hpp]; simp
        · rw [← wrap_nat rr (by omega)]; congr 1; omega
      obtain ⟨hGG0, hgg0, k1, k2, k3, k4⟩ := GG.out
      have hGG := Lib.hid hGG0
      have hgg' := Lib.hid hgg0
      have FF2 := FF
      clear LL hu2e hP hA hA2 hC f5 f6 hqq hrr hpp hGG0 hgg0 GG FF
      go_upto_block 2 with (fail)
      obtain ⟨Q0, hQ0⟩ : ∃ Q0, Q0 = (u2 * 4294967296 + v0) / (y1 * 4294967296 + y0) := ⟨_, rfl⟩
      have hQ0' := Lib.hid hQ0
      clear hQ0
      go_cut [18] (fun a wc => a = .int .u64 (Q0 : Nat) ∧ w = wc)
      case first =>
        go_wp2_with fail
        go_loop [18, 16] (fun a b => ∃ q r : Nat, a = .int .u64 q ∧ b = .int .u64 r ∧ Hid (Guess y1 y0 u2 v0 q r) ∧ Hid (r < 4294967296)) (fun a _ => (intOf a).toNat)
        case atStart => exact ⟨qq, rr, rfl, rfl, hGG, hgg'⟩
        case round =>
          obtain ⟨q', r', rfl, rfl, hG', hr'⟩ := hrel
          obtain ⟨m, hm⟩ : ∃ m, m = q' * y0 := ⟨_, rfl⟩
          obtain ⟨x, hx⟩ : ∃ x, x = 4294967296 * r' := ⟨_, rfl⟩
          obtain ⟨t, ht⟩ : ∃ t, t = x + v0 := ⟨_, rfl⟩
          have D : Hid (IntKind.u64.wrap ((q' : Int) * (y0 : Int)) = (m : Int) ∧ IntKind.u64.wrap (4294967296 * (r' : Int)) = (x : Int) ∧ IntKind.u64.wrap ((x : Int) + (v0 : Int)) = (t : Int)) := by
            obtain ⟨b1, b2, b3, b4, b5, hu2⟩ := BB.out
            obtain ⟨g1, g2, g3⟩ := guess_bounds b1 b3 hu3.out b5 hr'.out hG'.out
            have hr2 := hr'.out
            exact ⟨by rw [hm, ← wrap_nat (q' * y0) g2]; simp, by rw [← wrap_nat x (by omega)]; congr 1; omega, by rw [← wrap_nat t (by omega)]; congr 1; omega⟩
          have hcs : Hid ((decide ((4294967296 : Int) ≤ (q' : Int)) = true ∨ (decide ((4294967296 : Int) ≤ (q' : Int)) = false ∧ decide (t < m) = true)) ∧
              ((∃ q2 r2 : Nat, Guess y1 y0 u2 v0 q2 r2 ∧ q2 ≤ 4294967296 ∧ q2 < q' ∧ IntKind.u64.wrap ((q' : Int) - 1) = (q2 : Int) ∧ IntKind.u64.wrap ((r' : Int) + (y1 : Int)) = (r2 : Int) ∧ ((decide ((4294967296 : Int) ≤ (r2 : Int)) = true ∧ q2 = Q0) ∨ (decide ((4294967296 : Int) ≤ (r2 : Int)) = false ∧ r2 < 4294967296)))) ∨
              (decide ((4294967296 : Int) ≤ (q' : Int)) = false ∧ decide (t < m) = false ∧ q' = Q0)) := by
            obtain ⟨b1, b2, b3, b4, b5, hu2⟩ := BB.out
            obtain ⟨g1, g2, g3⟩ := guess_bounds b1 b3 hu3.out b5 hr'.out hG'.out
            have hr2 := hr'.out
            show _ ∨ _
            rcases (by omega : (4294967296 ≤ q' ∨ (¬ 4294967296 ≤ q' ∧ t < m)) ∨ (¬ 4294967296 ≤ q' ∧ ¬ t < m)) with hc | ⟨hc, hc2⟩
            · left
              refine ⟨?_, ?_⟩
              · rcases hc with hc | ⟨hc, hc2⟩
                · left; simp; omega
                · right; constructor <;> simp <;> omega
              · obtain ⟨h1, h2⟩ := guess_next (q := q') (r := r') b3 hu3.out b5 hG'.out (by omega)
                refine ⟨q' - 1, r' + y1, h2, by omega, by omega, ?_, ?_, ?_⟩
                · rw [← wrap_nat (q' - 1) (by omega)]; congr 1; omega
                · rw [← wrap_nat (r' + y1) (by omega)]; congr 1
                · by_cases hb : 4294967296 ≤ r' + y1
                  · left
                    refine ⟨by simp; omega, ?_⟩
                    rw [hQ0'.out]
                    exact guess_out b3 h2 (by omega) hb
                  · right
                    exact ⟨by simp; omega, by omega⟩
            · right
              refine ⟨by simp; omega, by simp; omega, ?_⟩
              rw [hQ0'.out]
              exact guess_done hG'.out (by omega)
          clear hm hx ht hG' hr'
          obtain ⟨d1, d2, d3⟩ := D.out
          rcases hcs.out with ⟨hc, q2, r2, h2, hq3, hq4, e1, e2, ⟨hb, hQe⟩ | ⟨hb, hr2⟩⟩ | ⟨hc1, hc2, hQe⟩
          · have hQe' := Lib.hid hQe
            clear hQe h2 hq3 hq4 D hcs
            rcases hc with hc | ⟨hc, hc2⟩
            all_goals
              go_wp2_with fail
              go_meet
              case rel => exact ⟨by rw [← hQe'.out], rfl⟩
          · have h2' := Lib.hid h2
            have hr2' := Lib.hid hr2
            clear h2 hq3 hr2 D hcs
            rcases hc with hc | ⟨hc, hc2⟩
            all_goals
              go_wp2_with fail
              go_round
              case rel => exact ⟨q2, r2, rfl, rfl, h2', hr2'⟩
              case measure => simp [intOf]; omega
          · have hQe' := Lib.hid hQe
            clear hQe D hcs
            go_wp2_with fail
            go_meet
            case rel => exact ⟨by rw [← hQe'.out], rfl⟩
      case rest =>
        obtain ⟨rfl, rfl⟩ := hcut
        have FIN : ∃ T1 S1 S2 C2 R2 : Nat, Hid (IntKind.u64.wrap ((Q1 : Int) * 4294967296) = (T1 : Int) ∧ IntKind.u64.wrap ((T1 : Int) + (Q0 : Int)) = (Q : Int) ∧ IntKind.u64.wrap ((u2 : Int) * 4294967296) = (S1 : Int) ∧ IntKind.u64.wrap ((S1 : Int) + (v0 : Int)) = (S2 : Int) ∧ IntKind.u64.wrap ((Q0 : Int) * (Y : Int)) = (C2 : Int) ∧ IntKind.u64.wrap ((S2 : Int) - (C2 : Int)) = (R2 : Int) ∧ (R2 : Int) / 2 ^ s = (R : Int)) := by
          obtain ⟨b1, b2, b3, b4, b5, hu2⟩ := BB.out
          obtain ⟨_, _, _, _, l4, l1⟩ := FF2.out
          have hYe := hY2.out
          have hn2 := hn2'.out
          obtain ⟨m1, m2, m3, m4⟩ := digit_left l4 b5
          have hQ0e : Q0 = (u2 * 4294967296 + v0) / Y := by rw [hYe]; exact hQ0'.out
          rw [← hQ0e] at m1 m2 m3
          obtain ⟨P2, hP2⟩ : ∃ P2, P2 = Q0 * Y := ⟨_, rfl⟩
          obtain ⟨R2, hR2⟩ : ∃ R2, R2 = (u2 * 4294967296 + v0) % Y := ⟨_, rfl⟩
          rw [← hP2] at m2 m3
          rw [← hR2] at m2 m4
          obtain ⟨t1, t2⟩ := two_digits (N := (hi * 18446744073709551616 + lo) * 2 ^ s) (y := Y) (u := u) (v1 := v1) (v0 := v0) (by rw [hN'.out, hL2.out]; omega) (by rw [hYe]; exact hu2)
          rw [← hQY.out, ← hu2e'.out, ← hQ0e] at t1
          rw [← hu2e'.out, ← hR2] at t2
          obtain ⟨d1, d2⟩ := hmv.out
          rw [← hY'.out] at d1 d2
          have hQf : Q = Q1 * 4294967296 + Q0 := by rw [hQ'.out, ← d1, t1]
          have hRf : R = R2 / 2 ^ s := by rw [hR'.out, ← d2, t2]
          have hq : (Q0 : Int) * (Y : Int) = (P2 : Int) := by rw [hP2]; simp
          refine ⟨Q1 * 4294967296 % 18446744073709551616, u2 * 4294967296 % 18446744073709551616, (u2 * 4294967296 + v0) % 18446744073709551616, P2 % 18446744073709551616, R2, ?_⟩
          refine show _ ∧ _ from ⟨?_, ?_, ?_, ?_, ?_, ?_, ?_⟩
          · rw [IntKind.wrap_u64]; omega
          · rw [IntKind.wrap_u64, hQf]; omega
          · rw [IntKind.wrap_u64]; omega
          · rw [IntKind.wrap_u64]; omega
          · rw [hq, IntKind.wrap_u64]; omega
          · rw [IntKind.wrap_u64]; omega
          · rw [hRf]; simp
        obtain ⟨T1, S1, S2, C2, R2, FIN⟩ := FIN
        obtain ⟨o1, o2, o3, o4, o5, o6, o7⟩ := FIN.out
        clear FIN f1 f2 f3 f4 k1 k2 k3 k4
        go_wp2_with fail
        go_ret2
        exact ⟨rfl, 0, rfl⟩
end Go.Proofs.YtmobnjlbbhhedaaGreatDoor
