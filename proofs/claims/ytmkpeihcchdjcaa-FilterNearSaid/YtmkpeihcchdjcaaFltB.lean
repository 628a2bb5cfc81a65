/- What filter.Turn and filter.Far give, as floats; their walks. -/
import Derived.Test.YtmkpeihcchdjcaaFltA
import Derived.Test.YtmkpeihcchdjcaaFlp
import Derived.Deep.RegionWith
import Derived.Test.YtmkpeihcchdjcaaMem
set_option linter.unusedVariables false
set_option linter.unusedSimpArgs false
namespace Go.Proofs.Ytmkpeihcchdjcaa
open Go.RowKit

theorem nanB_not_fin {x : Nat} (h : nanB x = true) : ¬ isFin x := by
  intro hf
  obtain ⟨m, e, hr, _⟩ := read_fin hf
  unfold nanB at h
  rw [hr] at h
  cases h
theorem fin_not_nan {x : Nat} (h : isFin x) : nanB x = false := by
  cases hn : nanB x with
  | false => rfl
  | true => exact absurd h (nanB_not_fin hn)
theorem FR.fin {f : Nat → Nat → Option Nat} {x y r : Nat} (h : FR f x y r) (hr : isFin r) : f x y = some r := by
  rcases h.1 with h | ⟨_, h⟩
  · exact h
  · exact absurd hr (nanB_not_fin h)

theorem write_not_nan (s : Bool) (m : Nat) (e : Int) : nanB (Ieee.double.write (.number s m e)) = false := by
  have h := (write_parts s m e _ rfl).1
  rcases (by omega : Ieee.double.write (.number s m e) % 9223372036854775808 < 9218868437227405312 ∨ Ieee.double.write (.number s m e) % 9223372036854775808 = 9218868437227405312) with h1 | h1
  · exact fin_not_nan h1
  · unfold nanB
    rw [read_inf h1]
    rfl
theorem sum_not_nan {x y r : Nat} (hx : isFin x) (hy : isFin y) (f : Nat → Nat → Option Nat) (hf : f = Ieee.double.add ∨ f = Ieee.double.sub) (h : FR f x y r) : nanB r = false := by
  obtain ⟨m, i, ex, _, _⟩ := read_fin hx
  obtain ⟨n, j, ey, _, _⟩ := read_fin hy
  have : ∃ s m e, f x y = some (Ieee.double.write (.number s m e)) := by
    rcases hf with rfl | rfl
    · unfold Ieee.Format.add
      rw [ex, ey]
      exact ⟨_, _, _, rfl⟩
    · unfold Ieee.Format.sub
      rw [ex, ey]
      exact ⟨_, _, _, rfl⟩
  obtain ⟨s, m, e, hs⟩ := this
  rcases h.1 with h1 | ⟨h1, _⟩
  · rw [hs] at h1
    cases h1
    exact write_not_nan s m e
  · rw [hs] at h1
    cases h1

theorem least_fin : isFin 553942754166571008 := by unfold isFin; decide
theorem most_fin : isFin 9218868437227405311 := by unfold isFin; decide
theorem least_val : val 553942754166571008 = 23945242826029513411849172299223580994042798784118784 := by
  rw [val_fin least_fin]; decide
/-- A sum that counts is finite, and no less than 2^-900. -/
theorem sure_fin {s : Nat} (h : sureB s = true) : isFin s ∧ 23945242826029513411849172299223580994042798784118784 ≤ val s := by
  unfold sureB at h
  simp only [Bool.and_eq_true, Bool.or_eq_true, beq_iff_eq] at h
  obtain ⟨h1, h2⟩ := h
  have hf : isFin s := by
    rcases tri s with h | h | h
    · exact h
    · exfalso
      obtain ⟨m1, e1, r1, _⟩ := read_fin least_fin
      obtain ⟨m2, e2, r2, _⟩ := read_fin most_fin
      unfold Ieee.Format.order at h1 h2
      rw [read_inf h, r1] at h1
      rw [read_inf h, r2] at h2
      simp only [Ieee.Datum.order] at h1 h2
      split at h1 <;> simp_all
    · exfalso
      obtain ⟨f, hr⟩ := read_nan h
      unfold Ieee.Format.order at h1
      rw [hr] at h1
      simp [Ieee.Datum.order] at h1
  refine ⟨hf, ?_⟩
  rw [order_fin hf least_fin, least_val] at h1
  simp only [Option.some.injEq, Int.compare_eq_gt, Int.compare_eq_eq] at h1
  omega
theorem order_nan_left {x y : Nat} (h : nanB x = true) : Ieee.double.order x y = none := by
  unfold nanB at h
  unfold Ieee.Format.order
  cases hd : Ieee.double.read x <;> rw [hd] at h
  · cases h
  · cases h
  · rfl

/-- The way of a turn by floats. -/
structure Trace (ax ay bx b_y cx cy p q l u v r d s : Nat) : Prop where
  p1 : FR Ieee.double.sub ax cx p
  q1 : FR Ieee.double.sub b_y cy q
  l1 : FR Ieee.double.mul p q l
  u1 : FR Ieee.double.sub ay cy u
  v1 : FR Ieee.double.sub bx cx v
  r1 : FR Ieee.double.mul u v r
  d1 : FR Ieee.double.sub l r d
  s1 : FR Ieee.double.add (absB l) (absB r) s
theorem Trace.fins {ax ay bx b_y cx cy p q l u v r d s : Nat} (h : Trace ax ay bx b_y cx cy p q l u v r d s) (hs : sureB s = true) : isFin s ∧ isFin l ∧ isFin r ∧ isFin p ∧ isFin q ∧ isFin u ∧ isFin v := by
  obtain ⟨hf, _⟩ := sure_fin hs
  obtain ⟨hl, hr⟩ := add_fin (h.s1.fin hf) hf
  have hl' := abs_fin hl
  have hr' := abs_fin hr
  obtain ⟨hp, hq⟩ := mul_fin (h.l1.fin hl') hl'
  obtain ⟨hu, hv⟩ := mul_fin (h.r1.fin hr') hr'
  exact ⟨hf, hl', hr', hp, hq, hu, hv⟩
theorem Trace.d_not_nan {ax ay bx b_y cx cy p q l u v r d s : Nat} (h : Trace ax ay bx b_y cx cy p q l u v r d s) (hs : sureB s = true) : nanB d = false := by
  obtain ⟨_, hl, hr, _⟩ := h.fins hs
  exact sum_not_nan hl hr _ (.inr rfl) h.d1

/-- What filter.Turn answers. -/
def TurnIs (ax ay bx b_y cx cy : Nat) (n : Int) (ok : Bool) : Prop :=
  ∃ p q l u v r d s, Trace ax ay bx b_y cx cy p q l u v r d s ∧
    ((sureB s = false ∧ n = 0 ∧ ok = false) ∨ (sureB s = true ∧ ∃ z, FR Ieee.double.mul s 4382002437431492608 z ∧
      (((Ieee.double.order (absB d) z == some .lt) = true ∧ n = 0 ∧ ok = false) ∨ ((Ieee.double.order (absB d) z == some .lt) = false ∧ n = signO d ∧ ok = true))))

set_option maxHeartbeats 1000000 in
set_option maxRecDepth 100000 in
theorem turn_calls (ax ay bx b_y cx cy : Nat) (w : World) :
    Calls Try.prog 11 #[.agg #[.int .u64 ax, .int .u64 ay], .agg #[.int .u64 bx, .int .u64 b_y], .agg #[.int .u64 cx, .int .u64 cy]] w fun e w' => ∃ n ok, e = .returned (.tuple #[.int .i64 n, .bool ok]) ∧ TurnIs ax ay bx b_y cx cy n ok ∧ Below w.heap.size w w' := by
  go_enter Try.func11, Try.ntmps11
  go_wp2_with fail
  refine (of_calls ax ay _).mono ?_
  rintro e w1 ⟨rfl, hb1⟩
  have B1 : Hid (Below w.heap.size w w1) := Below.trans ((((Below.refl _ w).alloc (Nat.le_refl _) _).alloc (by simp) _).alloc (by simp; omega) _) (hb1.mono (by simp; omega))
  have cb0 : w1.cell? ⟨w.heap.size + 1, 0, none⟩ = some (.int .u64 bx) := cell_below hb1 (by rw [World.cell?_alloc_past _ _ _ (by simp), World.cell?_alloc_at _ _ _ _ (by simp)]; rfl)
  have cb1 : w1.cell? ⟨w.heap.size + 1, 1, none⟩ = some (.int .u64 b_y) := cell_below hb1 (by rw [World.cell?_alloc_past _ _ _ (by simp), World.cell?_alloc_at _ _ _ _ (by simp)]; rfl)
  have cc0 : w1.cell? ⟨w.heap.size + 1 + 1, 0, none⟩ = some (.int .u64 cx) := cell_below hb1 (by rw [World.cell?_alloc_at _ _ _ _ (by simp)]; rfl)
  have cc1 : w1.cell? ⟨w.heap.size + 1 + 1, 1, none⟩ = some (.int .u64 cy) := cell_below hb1 (by rw [World.cell?_alloc_at _ _ _ _ (by simp)]; rfl)
  clear hb1
  go_wp2_with fail
  refine (of_calls bx b_y _).mono ?_
  rintro e w2 ⟨rfl, hb2⟩
  have B2 : Hid (Below w.heap.size w w2) := B1.out.trans (hb2.mono B1.out.size)
  replace cc0 := cell_below hb2 cc0
  replace cc1 := cell_below hb2 cc1
  clear hb2 cb0 cb1 B1
  go_wp2_with fail
  refine (of_calls cx cy _).mono ?_
  rintro e w3 ⟨rfl, hb3⟩
  have B3 : Hid (Below w.heap.size w w3) := B2.out.trans (hb3.mono B2.out.size)
  clear hb3 cc0 cc1 B2
  go_wp2_with (first | (refine wpList_float (o := ⟨some 37, _, _, _, _, _⟩) _ rfl .sub Ieee.double.sub (by simp) _ _ _ _ rfl (ax) (cx) rfl rfl ?_; intro p np hp; have Hp := Lib.hid hp; clear hp) | (refine wpList_float (o := ⟨some 40, _, _, _, _, _⟩) _ rfl .sub Ieee.double.sub (by simp) _ _ _ _ rfl (b_y) (cy) rfl rfl ?_; intro q nq hq; have Hq := Lib.hid hq; clear hq))
  refine (mul_calls p q _).mono ?_
  rintro e w' ⟨l, nl, rfl, hl, rfl⟩
  have Hl := Lib.hid hl
  clear hl
  go_wp2_with (first | (refine wpList_float (o := ⟨some 45, _, _, _, _, _⟩) _ rfl .sub Ieee.double.sub (by simp) _ _ _ _ rfl (ay) (cy) rfl rfl ?_; intro u nu hu; have Hu := Lib.hid hu; clear hu) | (refine wpList_float (o := ⟨some 48, _, _, _, _, _⟩) _ rfl .sub Ieee.double.sub (by simp) _ _ _ _ rfl (bx) (cx) rfl rfl ?_; intro v nv hv; have Hv := Lib.hid hv; clear hv))
  refine (mul_calls u v _).mono ?_
  rintro e w' ⟨r, nr, rfl, hr, rfl⟩
  have Hr := Lib.hid hr
  clear hr
  go_wp2_with (first | (refine wpList_float (o := ⟨some 52, _, _, _, _, _⟩) _ rfl .sub Ieee.double.sub (by simp) _ _ _ _ rfl (l) (r) rfl rfl ?_; intro d nd hd; have Hd := Lib.hid hd; clear hd))
  refine (abs_calls l Hl.out.2 _).mono ?_
  rintro e w' ⟨rfl, rfl⟩
  go_wp2_with fail
  refine (abs_calls r Hr.out.2 _).mono ?_
  rintro e w' ⟨rfl, rfl⟩
  go_wp2_with (first | (refine wpList_float (o := ⟨some 57, _, _, _, _, _⟩) _ rfl .add Ieee.double.add (by simp) _ _ _ _ rfl (absB l) (absB r) rfl rfl ?_; intro s ns hs; have Hs := Lib.hid hs; clear hs))
  have HT : Hid (Trace ax ay bx b_y cx cy p q l u v r d s) := ⟨Hp.out, Hq.out, Hl.out, Hu.out, Hv.out, Hr.out, Hd.out, Hs.out⟩
  obtain ⟨bs, hbs⟩ : ∃ bs, bs = sureB s := ⟨_, rfl⟩
  have csure := sure_calls s
  rw [← hbs] at csure
  have hbs' := Lib.hid hbs
  have csure' := Lib.hid csure
  clear hbs csure
  have hdlt := Hd.out.2
  clear Hp Hq Hl Hu Hv Hr Hd Hs
  refine (csure'.out _).mono ?_
  rintro e w' ⟨rfl, rfl⟩
  clear csure'
  cases bs with
  | false =>
    go_wp2_with fail
    go_ret2
    exact ⟨0, false, rfl, ⟨p, q, l, u, v, r, d, s, HT.out, .inl ⟨hbs'.out.symm, rfl, rfl⟩⟩, below_drewN B3.out _⟩
  | true =>
    have hnn := Lib.hid (HT.out.d_not_nan hbs'.out.symm)
    go_wp2_with fail
    refine (abs_calls d hdlt _).mono ?_
    rintro e w' ⟨rfl, rfl⟩
    go_wp2_with (first | (refine wpList_floatg (o := ⟨some 65, _, _, _, _, _⟩) _ rfl .mul Ieee.double.mul (by simp) _ _ _ _ rfl (s) (4382002437431492608) rfl rfl ?_; intro z nz hz; have Hz := Lib.hid hz; clear hz))
    · go_ret2
      exact ⟨0, false, rfl, ⟨p, q, l, u, v, r, d, s, HT.out, .inr ⟨hbs'.out.symm, z, Hz.out, .inl ⟨by assumption, rfl, rfl⟩⟩⟩, below_drewN B3.out _⟩
    · refine (compare_calls d hnn.out _).mono ?_
      rintro e w' ⟨rfl, rfl⟩
      go_wp2_with fail
      go_ret2
      exact ⟨signO d, true, rfl, ⟨p, q, l, u, v, r, d, s, HT.out, .inr ⟨hbs'.out.symm, z, Hz.out, .inr ⟨by assumption, rfl, rfl⟩⟩⟩, below_drewN B3.out _⟩
end Go.Proofs.Ytmkpeihcchdjcaa
