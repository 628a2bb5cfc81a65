/- The walk of outriggerref07.Floats. -/
import Derived.Test.YtmkpeihcchdjcaaFltG
set_option linter.unusedVariables false
set_option linter.unusedSimpArgs false
namespace Go.Proofs.Ytmkpeihcchdjcaa
open Go.RowKit

/-- What the document's Floats answers. -/
def FloatsIs (ax ay bx b_y cx cy : Nat) (n : Int) (ok : Bool) : Prop :=
  ∃ p q l u v r d s, Trace ax ay bx b_y cx cy p q l u v r d s ∧
    ((sureB s = false ∧ n = 0 ∧ ok = false) ∨ (sureB s = true ∧ ∃ z, FR Ieee.double.mul s 4382002437431492608 z ∧
      (((Ieee.double.order (absB d) z == some .lt) = true ∧ n = 0 ∧ ok = false) ∨ ((Ieee.double.order (absB d) z == some .lt) = false ∧ n = (if (Ieee.double.order d 0 == some .gt) = true then 1 else -1) ∧ ok = true))))

set_option maxHeartbeats 8000000 in
set_option maxRecDepth 100000 in
theorem floats_calls (ax ay bx b_y cx cy : Nat) (w : World) :
    Calls Try.prog 22 #[.agg #[.int .u64 ax, .int .u64 ay], .agg #[.int .u64 bx, .int .u64 b_y], .agg #[.int .u64 cx, .int .u64 cy]] w fun e w' => ∃ n ok, e = .returned (.tuple #[.int .i64 n, .bool ok]) ∧ FloatsIs ax ay bx b_y cx cy n ok ∧ Below w.heap.size w w' := by
  obtain ⟨RP, NP, hP, kP⟩ := run_floats (P := Try.prog) .sub Ieee.double.sub (by simp) 31 ax cx
  obtain ⟨RQ, NQ, hQ, kQ⟩ := run_floats (P := Try.prog) .sub Ieee.double.sub (by simp) 31 b_y cy
  obtain ⟨RU, NU, hU, kU⟩ := run_floats (P := Try.prog) .sub Ieee.double.sub (by simp) 31 ay cy
  obtain ⟨RV, NV, hV, kV⟩ := run_floats (P := Try.prog) .sub Ieee.double.sub (by simp) 31 bx cx
  go_enter Try.func22, Try.ntmps22
  go_wp2_with fail
  have B0 : Hid (Below w.heap.size w (((w.alloc (.cells #[.int .u64 ax, .int .u64 ay] 24)).alloc (.cells #[.int .u64 bx, .int .u64 b_y] 24)).alloc (.cells #[.int .u64 cx, .int .u64 cy] 24))) := (((Below.refl _ w).alloc (Nat.le_refl _) _).alloc (by simp) _).alloc (by simp; omega) _
  have pa : Pt (((w.alloc (.cells #[.int .u64 ax, .int .u64 ay] 24)).alloc (.cells #[.int .u64 bx, .int .u64 b_y] 24)).alloc (.cells #[.int .u64 cx, .int .u64 cy] 24)) w.heap.size ax ay := Pt.past (Pt.past (Pt.at1 (by simp)))
  have pb : Pt (((w.alloc (.cells #[.int .u64 ax, .int .u64 ay] 24)).alloc (.cells #[.int .u64 bx, .int .u64 b_y] 24)).alloc (.cells #[.int .u64 cx, .int .u64 cy] 24)) (w.heap.size + 1) bx b_y := Pt.past (Pt.at1 (by simp))
  have pc : Pt (((w.alloc (.cells #[.int .u64 ax, .int .u64 ay] 24)).alloc (.cells #[.int .u64 bx, .int .u64 b_y] 24)).alloc (.cells #[.int .u64 cx, .int .u64 cy] 24)) (w.heap.size + 1 + 1) cx cy := Pt.at1 (by simp)
  generalize (((w.alloc (.cells #[.int .u64 ax, .int .u64 ay] 24)).alloc (.cells #[.int .u64 bx, .int .u64 b_y] 24)).alloc (.cells #[.int .u64 cx, .int .u64 cy] 24)) = W at *
  obtain ⟨ca0, ca1⟩ := pa
  obtain ⟨cb0, cb1⟩ := pb
  obtain ⟨cc0, cc1⟩ := pc
  go_region_with (go_at_call 53; refine (float_calls _ _).mono ?_; rintro e w' ⟨rfl, rfl⟩)
  all_goals refine ?k1
  generalize hx : RP _ = p
  generalize NP _ = np
  have Hp : Hid (FR Ieee.double.sub ax cx p) := by rw [← hx]; exact kP.out _
  clear hx hP kP
  go_wp2_with fail
  go_region_with (go_at_call 53; refine (float_calls _ _).mono ?_; rintro e w' ⟨rfl, rfl⟩)
  all_goals refine ?k2
  generalize hx : RQ _ = q
  generalize NQ _ = nq
  have Hq : Hid (FR Ieee.double.sub b_y cy q) := by rw [← hx]; exact kQ.out _
  clear hx hQ kQ
  go_wp2_with fail
  go_region_with (go_at_call 53; refine (float_calls _ _).mono ?_; rintro e w' ⟨rfl, rfl⟩)
  all_goals refine ?k3
  generalize hx : RU _ = u
  generalize NU _ = nu
  have Hu : Hid (FR Ieee.double.sub ay cy u) := by rw [← hx]; exact kU.out _
  clear hx hU kU
  go_wp2_with fail
  go_region_with (go_at_call 53; refine (float_calls _ _).mono ?_; rintro e w' ⟨rfl, rfl⟩)
  all_goals refine ?k4
  generalize hx : RV _ = v
  generalize NV _ = nv
  have Hv : Hid (FR Ieee.double.sub bx cx v) := by rw [← hx]; exact kV.out _
  clear hx hV kV
  go_wp2_with (first | (refine wpList_float (o := ⟨some 46, _, _, _, _, _⟩) _ rfl .mul Ieee.double.mul (by simp) _ _ _ _ rfl (p) (q) rfl rfl ?_; intro l nl hm; have Hl := Lib.hid hm; clear hm) | (refine wpList_float (o := ⟨some 49, _, _, _, _, _⟩) _ rfl .mul Ieee.double.mul (by simp) _ _ _ _ rfl (u) (v) rfl rfl ?_; intro r nr hm; have Hr := Lib.hid hm; clear hm) | (refine wpList_float (o := ⟨some 52, _, _, _, _, _⟩) _ rfl .sub Ieee.double.sub (by simp) _ _ _ _ rfl (l) (r) rfl rfl ?_; intro d nd hm; have Hd := Lib.hid hm; clear hm))
  refine (abs_calls l Hl.out.2 _).mono ?_
  rintro e w' ⟨rfl, rfl⟩
  go_wp2_with fail
  refine (abs_calls r Hr.out.2 _).mono ?_
  rintro e w' ⟨rfl, rfl⟩
  go_wp2_with (first | (refine wpList_float (o := ⟨some 57, _, _, _, _, _⟩) _ rfl .add Ieee.double.add (by simp) _ _ _ _ rfl (absB l) (absB r) rfl rfl ?_; intro s ns hs; have Hs := Lib.hid hs; clear hs))
  have HT : Hid (Trace ax ay bx b_y cx cy p q l u v r d s) := ⟨Hp.out, Hq.out, Hl.out, Hu.out, Hv.out, Hr.out, Hd.out, Hs.out⟩
  obtain ⟨bs, hbs⟩ : ∃ bs, bs = sureB s := ⟨_, rfl⟩
  have csure := counts_calls s
  rw [← hbs] at csure
  have hbs' := Lib.hid hbs
  have csure' := Lib.hid csure
  clear hbs csure
  have hdlt := Hd.out.2
  clear Hp Hq Hl Hu Hv Hr Hd Hs
  refine (csure'.out _).mono ?_
  rintro e w' ⟨rfl, k, rfl⟩
  clear csure'
  cases bs with
  | false =>
    go_wp2_with fail
    go_ret2
    exact ⟨0, false, rfl, ⟨p, q, l, u, v, r, d, s, HT.out, .inl ⟨hbs'.out.symm, rfl, rfl⟩⟩, below_drewN B0.out _⟩
  | true =>
    go_wp2_with fail
    refine (abs_calls d hdlt _).mono ?_
    rintro e w' ⟨rfl, rfl⟩
    go_wp2_with fail
    refine (Ldexp_calls (-50) _ (.inr ⟨rfl, rfl⟩) _).mono ?_
    rintro e w' ⟨rfl, k2, rfl⟩
    go_wp2_with (first | (refine wpList_floatg (o := ⟨some 66, _, _, _, _, _⟩) _ rfl .mul Ieee.double.mul (by simp) _ _ _ _ rfl (s) (4382002437431492608) rfl rfl ?_; intro z nz hz; have Hz := Lib.hid hz; clear hz))
    all_goals go_ret2
    all_goals first
      | exact ⟨0, false, rfl, ⟨p, q, l, u, v, r, d, s, HT.out, .inr ⟨hbs'.out.symm, z, Hz.out, .inl ⟨by assumption, rfl, rfl⟩⟩⟩, below_drewN B0.out _⟩
      | exact ⟨1, true, rfl, ⟨p, q, l, u, v, r, d, s, HT.out, .inr ⟨hbs'.out.symm, z, Hz.out, .inr ⟨by assumption, (if_pos (by assumption)).symm, rfl⟩⟩⟩, below_drewN B0.out _⟩
      | exact ⟨-1, true, rfl, ⟨p, q, l, u, v, r, d, s, HT.out, .inr ⟨hbs'.out.symm, z, Hz.out, .inr ⟨by assumption, (if_neg (fun h => Bool.false_ne_true ((show (Ieee.double.order d 0 == some .gt) = false from by assumption).symm.trans h))).symm, rfl⟩⟩⟩, below_drewN B0.out _⟩
end Go.Proofs.Ytmkpeihcchdjcaa
