/- outriggerref07's Floats and Far; FilterTells. -/
import Derived.Test.YtmkpeihcchdjcaaFltF
set_option linter.unusedVariables false
set_option linter.unusedSimpArgs false
namespace Go.Proofs.Ytmkpeihcchdjcaa
open Go.RowKit

/-- An operation on floats, of whatever world. -/
theorem run_floats {P : Program} (op : BinOp) (f : Nat → Nat → Option Nat) (hf : (op = .add ∧ f = Ieee.double.add) ∨ (op = .sub ∧ f = Ieee.double.sub) ∨ (op = .mul ∧ f = Ieee.double.mul)) (t : TypeId) (x y : Nat) :
    ∃ (R N : World → Nat), (∀ w, (binOp op t (.float .f64 x) (.float .f64 y)).run P w = .ok (.float .f64 (R w)) (w.drewN (N w))) ∧ Hid (∀ w, FR f x y (R w)) :=
  ⟨fun w => Classical.choose (run_float (P := P) op f hf t x y w), fun w => Classical.choose (Classical.choose_spec (run_float (P := P) op f hf t x y w)),
    fun w => (Classical.choose_spec (Classical.choose_spec (run_float (P := P) op f hf t x y w))).1, fun w => (Classical.choose_spec (Classical.choose_spec (run_float (P := P) op f hf t x y w))).2⟩

set_option maxHeartbeats 1000000 in
set_option maxRecDepth 100000 in
theorem rfar_calls (ax ay bx b_y : Nat) (w : World) :
    Calls Try.prog 23 #[.agg #[.int .u64 ax, .int .u64 ay], .agg #[.int .u64 bx, .int .u64 b_y]] w fun e w' => ∃ f ok, e = .returned (.tuple #[.float .f64 f, .bool ok]) ∧ FarIs ax ay bx b_y f ok ∧ Below w.heap.size w w' := by
  obtain ⟨RX, NX, hX, kX⟩ := run_floats (P := Try.prog) .sub Ieee.double.sub (by simp) 31 ax bx
  obtain ⟨RY, NY, hY, kY⟩ := run_floats (P := Try.prog) .sub Ieee.double.sub (by simp) 31 ay b_y
  go_enter Try.func23, Try.ntmps23
  go_wp2_with fail
  have B0 : Hid (Below w.heap.size w ((w.alloc (.cells #[.int .u64 ax, .int .u64 ay] 24)).alloc (.cells #[.int .u64 bx, .int .u64 b_y] 24))) := ((Below.refl _ w).alloc (Nat.le_refl _) _).alloc (by simp) _
  go_region_with (go_at_call 53; refine (float_calls _ _).mono ?_; rintro e w' ⟨rfl, rfl⟩)
  all_goals refine ?k1
  generalize hx : RX _ = x
  generalize NX _ = nx
  have Hx : Hid (FR Ieee.double.sub ax bx x) := by rw [← hx]; exact kX.out _
  clear hx hX kX
  go_wp2_with fail
  go_region_with (go_at_call 53; refine (float_calls _ _).mono ?_; rintro e w' ⟨rfl, rfl⟩)
  all_goals refine ?k2
  generalize hy : RY _ = y
  generalize NY _ = ny
  have Hy : Hid (FR Ieee.double.sub ay b_y y) := by rw [← hy]; exact kY.out _
  clear hy hY kY
  go_wp2_with (first | (refine wpList_float (o := ⟨some 25, _, _, _, _, _⟩) _ rfl .mul Ieee.double.mul (by simp) _ _ _ _ rfl (x) (x) rfl rfl ?_; intro m nm hm; have Hm := Lib.hid hm; clear hm) | (refine wpList_float (o := ⟨some 28, _, _, _, _, _⟩) _ rfl .mul Ieee.double.mul (by simp) _ _ _ _ rfl (y) (y) rfl rfl ?_; intro n nn hn; have Hn := Lib.hid hn; clear hn) | (refine wpList_float (o := ⟨some 29, _, _, _, _, _⟩) _ rfl .add Ieee.double.add (by simp) _ _ _ _ rfl (m) (n) rfl rfl ?_; intro s ns hs; have Hs := Lib.hid hs; clear hs))
  have HT : Hid (FarTrace ax ay bx b_y x y m n s) := ⟨Hx.out, Hy.out, Hm.out, Hn.out, Hs.out⟩
  clear Hx Hy Hm Hn Hs
  obtain ⟨bs, hbs⟩ : ∃ bs, bs = sureB s := ⟨_, rfl⟩
  have csure := counts_calls s
  rw [← hbs] at csure
  have hbs' := Lib.hid hbs
  have csure' := Lib.hid csure
  clear hbs csure
  refine (csure'.out _).mono ?_
  rintro e w' ⟨rfl, k, rfl⟩
  clear csure'
  cases bs with
  | false =>
    go_wp2_with fail
    go_ret2
    exact ⟨0, false, rfl, ⟨x, y, m, n, s, HT.out, .inl ⟨hbs'.out.symm, rfl, rfl⟩⟩, below_drewN B0.out _⟩
  | true =>
    go_wp2_with fail
    go_ret2
    exact ⟨s, true, rfl, ⟨x, y, m, n, s, HT.out, .inr ⟨hbs'.out.symm, rfl, rfl⟩⟩, below_drewN B0.out _⟩

end Go.Proofs.Ytmkpeihcchdjcaa
