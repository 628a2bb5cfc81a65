/- The walk of float.Parts; outriggerlaw05.awake. -/
import Derived.Test.YtmkpeihcchdjcaaDoorFltR
import Derived.Deep.QuietTactic
import Derived.BigQuiet
set_option linter.unusedVariables false
set_option linter.unusedSimpArgs false
namespace Go.Proofs.YtmkpeihcchdjcaaDoor
open Go.RowKit

/-- What float.Parts answers. -/
def FPartsIs (x : Nat) (v : Value) : Prop :=
  (finB x = false ∧ v = .tuple #[.bool false, .int .u64 0, .int .i64 0, errN 1]) ∨ (finB x = true ∧ ∃ (neg : Bool) (m : Nat) (z : Int), v = .tuple #[.bool neg, .int .u64 m, .int .i64 z, .nilIface] ∧ PartsOf x neg m z)
/-- What is left of the walk, the bits being taken apart. -/
theorem shr_nat (x n : Nat) : (x : Int) / 2 ^ n = ((x / 2 ^ n : Nat) : Int) := by simp
set_option maxHeartbeats 1000000 in
set_option maxRecDepth 100000 in
theorem fparts_calls (x : Nat) (hx : x < 18446744073709551616) (w : World) (hT : TabAt w) :
    Calls Tryd.prog 14 #[.int .u64 x] w fun e w' => ∃ v, e = .returned v ∧ FPartsIs x v ∧ ∃ nd, w' = w.drewN nd := by
  obtain ⟨D, hD⟩ : ∃ D, D = x / 4503599627370496 := ⟨_, rfl⟩
  obtain ⟨E, hE⟩ : ∃ E, E = D % 2048 := ⟨_, rfl⟩
  obtain ⟨F, hF⟩ : ∃ F, F = x % 4503599627370496 := ⟨_, rfl⟩
  have hEb : E < 2048 := by omega
  have hFb : F < 4503599627370496 := by omega
  have h1 : (x : Int) / 4503599627370496 = (D : Int) := by omega
  have h2 := and_2047 D (by omega)
  rw [← hE] at h2
  have h3 := and_low x hx
  rw [← hF] at h3
  have h4 := or_low F hFb
  have hw : IntKind.i64.wrap (E : Int) = (E : Int) := IntWalk.i64_in _ (by omega)
  have hMx : Hid (mantOf x = if E = 0 then F else F + 4503599627370496) := by show _ = _; unfold mantOf; rw [← hD, ← hE, ← hF]
  have hKx : Hid (expOf x = if E = 0 then 0 else E - 1) := by show _ = _; unfold expOf; rw [← hD, ← hE]
  have hfin : Hid (finB x = decide (E ≠ 2047)) := by show _ = _; unfold finB; rw [← hD, ← hE]
  have hS : Hid (((x : Int) / 9223372036854775808 == 1) = decide (9223372036854775808 ≤ x)) := by
    show _ = _
    by_cases h : 9223372036854775808 ≤ x
    · have : (x : Int) / 9223372036854775808 = 1 := by omega
      rw [this]; simp [h]
    · have : (x : Int) / 9223372036854775808 = 0 := by omega
      rw [this]; simp [h]
  have HT := Lib.hid hT
  clear hT hD hE hF
  by_cases hi : E = 2047
  · subst hi
    clear h4 hMx hKx hS HT
    go_enter Tryd.func14, Tryd.ntmps14
    go_wp2_with fail
    refine bodyPost_ret (v := .tuple #[.bool false, .int .u64 0, .int .i64 0, errN 1]) (by simp [results, Tryd.results14, go_sem]; rfl) rfl ?_
    exact ⟨_, rfl, .inl ⟨by rw [hfin.out]; rfl, rfl⟩, 0, rfl⟩
  · have hi1 : ((E : Int) == 2047) = false := by simp; omega
    have hfin2 : Hid (finB x = true) := by show _ = _; rw [hfin.out]; simp [hi]
    clear hfin hi
    by_cases h0 : E = 0
    · subst h0
      rw [if_pos rfl] at hMx hKx
      clear h4
      by_cases hF0 : F = 0
      · subst hF0
        clear hS HT
        go_enter Tryd.func14, Tryd.ntmps14
        go_wp2_with fail
        refine bodyPost_ret (v := .tuple #[.bool false, .int .u64 0, .int .i64 0, .nilIface]) (by simp [results, Tryd.results14, go_sem]) rfl ?_
        exact ⟨_, rfl, .inr ⟨hfin2.out, false, 0, 0, rfl, .inl ⟨hMx.out, rfl, rfl, rfl⟩⟩, 0, rfl⟩
      · have hF1 : ((F : Int) == 0) = false := by simp; omega
        have tz := Lib.hid (fun w hT => tz_calls F (by omega) hF0 w hT)
        go_enter Tryd.func14, Tryd.ntmps14
        go_wp2_with fail
        refine (tz.out _ HT.out).mono ?_
        rintro e w' ⟨n, m, rfl, hn, hm, hodd, rfl⟩
        have hq : F / 2 ^ n = m := by rw [hm]; exact Nat.mul_div_cancel _ (Nat.two_pow_pos n)
        have hsh := shr_nat F n
        rw [hq] at hsh
        have hpo : Hid (PartsOf x (decide (9223372036854775808 ≤ x)) m ((n : Int) - 1074)) := .inr ⟨by rw [hMx.out]; exact hF0, rfl, hodd, n, by rw [hMx.out]; exact hm.symm, by rw [hKx.out]; omega⟩
        have hS' := hS.out
        generalize decide (9223372036854775808 ≤ x) = S at *
        obtain ⟨z, hz⟩ : ∃ z : Int, z = (n : Int) - 1074 := ⟨_, rfl⟩
        have hz1 : IntKind.i64.wrap (-1074 + (n : Int)) = z := by rw [hz]; rw [IntWalk.i64_in _ (by omega)]; omega
        have hz2 : -1074 + (n : Int) = z := by omega
        rw [← hz] at hpo
        clear hm hodd hq hz tz hS HT hF0 hMx hKx
        go_wp2_with fail
        go_quiet (fail)
        go_wp2_with fail
        refine bodyPost_ret (v := .tuple #[.bool S, .int .u64 m, .int .i64 z, .nilIface]) (by simp [results, Tryd.results14, go_sem, hS', hz1, hz2, hsh]) rfl ?_
        exact ⟨_, rfl, .inr ⟨hfin2.out, S, m, z, rfl, hpo.out⟩, _, rfl⟩
    · have h01 : ((E : Int) == 0) = false := by simp; omega
      rw [if_neg h0] at hMx hKx
      obtain ⟨M, hM⟩ : ∃ M, M = F + 4503599627370496 := ⟨_, rfl⟩
      rw [← hM] at hMx h4
      have hMb : M < 9007199254740992 := by omega
      have hM0 : M ≠ 0 := by omega
      have hM1 : ((M : Int) == 0) = false := by simp; omega
      have tz := Lib.hid (fun w hT => tz_calls M (by omega) hM0 w hT)
      clear hM
      go_enter Tryd.func14, Tryd.ntmps14
      go_wp2_with fail
      refine (tz.out _ HT.out).mono ?_
      rintro e w' ⟨n, m, rfl, hn, hm, hodd, rfl⟩
      have hq : M / 2 ^ n = m := by rw [hm]; exact Nat.mul_div_cancel _ (Nat.two_pow_pos n)
      have hsh := shr_nat M n
      rw [hq] at hsh
      have hpo : Hid (PartsOf x (decide (9223372036854775808 ≤ x)) m ((E : Int) - 1 - 1074 + (n : Int))) := .inr ⟨by rw [hMx.out]; exact hM0, rfl, hodd, n, by rw [hMx.out]; exact hm.symm, by rw [hKx.out]; omega⟩
      have hS' := hS.out
      generalize decide (9223372036854775808 ≤ x) = S at *
      obtain ⟨z, hz⟩ : ∃ z : Int, z = (E : Int) - 1 - 1074 + (n : Int) := ⟨_, rfl⟩
      have hz1 : IntKind.i64.wrap ((E : Int) - 1 - 1074 + (n : Int)) = z := by rw [hz]; rw [IntWalk.i64_in _ (by omega)]
      have hz2 : (E : Int) - 1 - 1074 + (n : Int) = z := by omega
      rw [← hz] at hpo
      clear hm hodd hq hz tz hS HT hM0 hMx hKx
      go_wp2_with fail
      go_quiet (fail)
      go_wp2_with fail
      refine bodyPost_ret (v := .tuple #[.bool S, .int .u64 m, .int .i64 z, .nilIface]) (by simp [results, Tryd.results14, go_sem, hS', hz1, hz2, hsh]) rfl ?_
      exact ⟨_, rfl, .inr ⟨hfin2.out, S, m, z, rfl, hpo.out⟩, _, rfl⟩
end Go.Proofs.YtmkpeihcchdjcaaDoor
