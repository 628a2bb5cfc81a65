/- For every 2 points, FilterNear returns true and leaves its arguments as they were: no condition. -/
import Derived.Test.YtmkpeihcchdjcaaRows
import Derived.Test.YtmkpeihcchdjcaaLNear
import Derived.WalkKit
import Derived.ProofKit
import Derived.OpenShut
import Derived.ShutString
import Derived.ChangeOld
import Derived.Below
import Derived.Lib.SmallJoins
namespace Go.Proofs.Ytmkpeihcchdjcaa.filterNear
open Go.ChangeShapes Go.WideShapes Go.ChangeAt Go.RowKit Go.Joins
set_option linter.unusedVariables false

theorem own : ownKnob Try.prog.godebug = none := by kernel_rfl
theorem laidOut : laidOutB Try.prog = true := by kernel_rfl
theorem cellsP : Try.prog.cellsOf 24 = 2 := by kernel_rfl

/-- A number within its kind, as a natural one. -/
theorem nat_of {a : Int} (h : (Lit.int .u64 a).wf = true) : ∃ n : Nat, a = n ∧ n < 18446744073709551616 := by
  have h2 := bounds_u64 h
  exact ⟨a.toNat, by omega, by omega⟩

set_option maxRecDepth 100000 in
theorem lifted (os : Os) (started : os.Started) (H : Type) (enc : TypeId × Value → H) :
    ReturnsInHanded {} Try.checked os 4 .any (Rows.filterNearSpec.pre6 enc Try.prog Try.f4 Rows.filterNearRow.domain false) (Rows.filterNearSpec.post enc Try.prog Try.f4 false true false false) := by
  refine returnsInHanded_of_change (C := Try.checked) own started (by kernel_rfl) Try.func4
    (ChangeSpec.witness6 (enc := enc) (C := Try.checked) false ⟨#[], #[.agg #[.int .u64 0, .int .u64 0], .agg #[.int .u64 0, .int .u64 0]], []⟩ 8 (by kernel_rfl) (by kernel_rfl) (by kernel_rfl) (by kernel_rfl)) ?_
  intro W base args ds gs before hval0 hW hcnd _
  have hval : ∀ (j : Nat) t v, Try.f4.params[j]? = some t → args[j]? = some v → Value.okWide Try.prog W .any base t v := hval0
  have hW' := hW
  obtain ⟨p, q, hA0, hV, rfl, hfz, hnd⟩ := hW
  have hA : DataW.TrodAll enc Try.prog W 0 (fun _ => true) true Try.f4.params.toList args.toList ds p := hA0
  rw [Try.params4] at hA hval
  obtain ⟨v0, vs0, d0, ds0, p0, q0, hargs, rfl, rfl, h0, r0⟩ := trodAll_cons hA
  obtain ⟨v1, vs1, d1, ds1, p1, q1, rfl, rfl, rfl, h1, r1⟩ := trodAll_cons r0
  obtain ⟨rfl, rfl, rfl⟩ := trodAll_nil r1
  obtain rfl : args = #[v0, v1] := by cases args; simp_all
  obtain ⟨rfl, rfl⟩ := trodVars_none hV
  have k0 := h0
  have lt0 : ∀ x ∈ p0, x.block < W.heap.size := by obtain ⟨m, hm⟩ := k0; exact DataW.trod_lt m _ _ _ hm
  obtain ⟨a0, b0, rfl, bx0, by0⟩ : ∃ x y : Nat, v0 = .agg #[.int .u64 x, .int .u64 y] ∧ x < 18446744073709551616 ∧ y < 18446744073709551616 := by
    obtain ⟨c0, c1, y0, y1, m, rfl, _, _, hy0, hy1⟩ := open_agg2 Try.underlying24 (by kernel_rfl) cellsP (hval 0 _ v0 rfl rfl) h0
    obtain ⟨x, e0, _, wx⟩ := DataW.trod_int Try.underlying22 hy0
    obtain ⟨y, e1, _, wy⟩ := DataW.trod_int Try.underlying22 hy1
    simp at e0 e1
    subst e0 e1
    obtain ⟨x', rfl, hx'⟩ := nat_of wx
    obtain ⟨y', rfl, hy'⟩ := nat_of wy
    exact ⟨x', y', rfl, hx', hy'⟩
  have k1 := h1
  have lt1 : ∀ x ∈ p1, x.block < W.heap.size := by obtain ⟨m, hm⟩ := k1; exact DataW.trod_lt m _ _ _ hm
  obtain ⟨a1, b1, rfl, bx1, by1⟩ : ∃ x y : Nat, v1 = .agg #[.int .u64 x, .int .u64 y] ∧ x < 18446744073709551616 ∧ y < 18446744073709551616 := by
    obtain ⟨c0, c1, y0, y1, m, rfl, _, _, hy0, hy1⟩ := open_agg2 Try.underlying24 (by kernel_rfl) cellsP (hval 1 _ v1 rfl rfl) h1
    obtain ⟨x, e0, _, wx⟩ := DataW.trod_int Try.underlying22 hy0
    obtain ⟨y, e1, _, wy⟩ := DataW.trod_int Try.underlying22 hy1
    simp at e0 e1
    subst e0 e1
    obtain ⟨x', rfl, hx'⟩ := nat_of wx
    obtain ⟨y', rfl, hy'⟩ := nat_of wy
    exact ⟨x', y', rfl, hx', hy'⟩
  clear hA0 hval0
  refine (filterNear_walk a0 b0 a1 b1 W bx0 by0 bx1 by1).mono fun e W' ⟨he, bel⟩ => ?_
  subst he
  exact ⟨_, rfl, _, _, _, [], _, [], hW', trodAll_mk1 (shut_bool Try.underlying4 _), (trodAll_cons_mk (Below.trod laidOut (by kernel_rfl) (of_decide_eq_true (by kernel_rfl)) k0 bel lt0) (trodAll_cons_mk (Below.trod laidOut (by kernel_rfl) (of_decide_eq_true (by kernel_rfl)) k1 bel lt1) trodAll_mk0)), rfl, bel.frame _, fun h => by cases h⟩

theorem over : Rows.filterNearRow.holds Try.pinned (OpenSpec.ofChange Rows.filterNearSpec) :=
  OpenClaim.holds_of_wide 4 Try.f4 rfl rfl rfl rfl rfl rfl rfl ⟨rfl, rfl, rfl, rfl, rfl⟩ rfl rfl rfl rfl rfl (by kernel_rfl) Try.func4 (by kernel_rfl)
    (of_decide_eq_true (by kernel_rfl)) (by unfold Func.isWrapper; first | (rw [if_pos (by decide +kernel)]; kernel_rfl) | (rw [if_neg (by decide +kernel)]; exact ⟨rfl, rfl⟩))
    (fun os started H enc _ => lifted os started H enc)

/-- The statement. -/
theorem proved : Rows.FilterNearSaid := over
#print axioms proved
end Go.Proofs.Ytmkpeihcchdjcaa.filterNear
