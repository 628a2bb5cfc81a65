/- The walk of outriggerlaw07.FilterTells. -/
import Derived.Test.YtmkpeihcchdjcaaFltH
set_option linter.unusedVariables false
set_option linter.unusedSimpArgs false
namespace Go.Proofs.Ytmkpeihcchdjcaa
open Go.RowKit

theorem Trace.one {ax ay bx b_y cx cy p q l u v r d s p' q' l' u' v' r' d' s' : Nat} (h : Trace ax ay bx b_y cx cy p q l u v r d s) (k : Trace ax ay bx b_y cx cy p' q' l' u' v' r' d' s') (hs : sureB s = true) : s' = s ∧ d' = d := by
  obtain ⟨fs, fl, fr, fp, fq, fu, fv⟩ := h.fins hs
  have e1 := k.p1.det (h.p1.fin fp)
  have e2 := k.q1.det (h.q1.fin fq)
  have e3 := k.u1.det (h.u1.fin fu)
  have e4 := k.v1.det (h.v1.fin fv)
  subst e1 e2 e3 e4
  have e5 := k.l1.det (h.l1.fin fl)
  have e6 := k.r1.det (h.r1.fin fr)
  subst e5 e6
  exact ⟨k.s1.det (h.s1.fin fs), k.d1.det (sub_some fl fr h.d1)⟩
theorem FarTrace.one {ax ay bx b_y x y m n s x' y' m' n' s' : Nat} (h : FarTrace ax ay bx b_y x y m n s) (k : FarTrace ax ay bx b_y x' y' m' n' s') (hs : sureB s = true) : s' = s := by
  obtain ⟨_, _, _, _, fx, fy, fm, fn, fs⟩ := h.fins hs
  have e1 := k.x1.det (h.x1.fin fx)
  have e2 := k.y1.det (h.y1.fin fy)
  subst e1 e2
  have e3 := k.m1.det (h.m1.fin fm)
  have e4 := k.n1.det (h.n1.fin fn)
  subst e3 e4
  exact k.s1.det (h.s1.fin fs)
theorem order_inf0 {d : Nat} (h : d % 9223372036854775808 = 9218868437227405312) : Ieee.double.order d 0 = some .lt ∨ Ieee.double.order d 0 = some .gt := by
  have h0 : Ieee.double.read 0 = .number false 0 (-1074) := by decide
  unfold Ieee.Format.order
  rw [read_inf h, h0]
  cases (d / 9223372036854775808 % 2 == 1)
  · exact .inr rfl
  · exact .inl rfl
/-- A sign that the document tells by one question. -/
theorem sign_told {s d z : Nat} (hs : sureB s = true) (hd : nanB d = false) (hz : FR Ieee.double.mul s 4382002437431492608 z) (ho : (Ieee.double.order (absB d) z == some .lt) = false) :
    signO d = if (Ieee.double.order d 0 == some .gt) = true then 1 else -1 := by
  obtain ⟨zf, zp⟩ := part_pos hs hz
  have key : Ieee.double.order d 0 = some .lt ∨ Ieee.double.order d 0 = some .gt := by
    rcases tri d with h | h | h
    · have h0 : isFin 0 := by unfold isFin; decide
      rw [order_fin h h0, val_zero]
      rcases Int.lt_trichotomy (val d) 0 with h1 | h1 | h1
      · exact .inl (by rw [Int.compare_eq_lt.2 h1])
      · exfalso
        obtain ⟨af, av⟩ := abs_read h
        have e : absB d = d % 9223372036854775808 := rfl
        rw [e, order_fin af zf, av, h1] at ho
        have e2 : compare (((0 : Int).natAbs : Nat) : Int) (val z) = .lt := Int.compare_eq_lt.2 (by simpa using zp)
        rw [e2] at ho
        exact absurd ho (by decide)
      · exact .inr (by rw [Int.compare_eq_gt.2 h1])
    · exact order_inf0 h
    · exfalso
      obtain ⟨f, hr⟩ := read_nan h
      have hn : nanB d = true := by unfold nanB; rw [hr]; rfl
      rw [hn] at hd
      cases hd
  unfold signO
  rcases key with h | h <;> rw [h] <;> rfl
theorem tells_plain {ax ay bx b_y cx cy : Nat} {n m : Int} {ok i : Bool} (h : TurnIs ax ay bx b_y cx cy n ok) (k : FloatsIs ax ay bx b_y cx cy m i) : n = m ∧ ok = i := by
  obtain ⟨p, q, l, u, v, r, d, s, ht, h⟩ := h
  obtain ⟨p', q', l', u', v', r', d', s', kt, k⟩ := k
  rcases h with ⟨hs, rfl, rfl⟩ | ⟨hs, z, hz, h⟩
  · rcases k with ⟨ks, rfl, rfl⟩ | ⟨ks, _⟩
    · exact ⟨rfl, rfl⟩
    · have := (kt.one ht ks).1
      rw [this, ks] at hs
      cases hs
  · obtain ⟨rfl, rfl⟩ := ht.one kt hs
    rcases k with ⟨ks, _⟩ | ⟨ks, z', kz, k⟩
    · rw [hs] at ks; cases ks
    · have ez := kz.det (hz.fin (part_near (sure_fin hs).1 hz).1)
      subst ez
      rcases h with ⟨h1, rfl, rfl⟩ | ⟨h1, rfl, rfl⟩
      · rcases k with ⟨k1, rfl, rfl⟩ | ⟨k1, rfl, rfl⟩
        · exact ⟨rfl, rfl⟩
        · rw [h1] at k1; cases k1
      · rcases k with ⟨k1, rfl, rfl⟩ | ⟨k1, rfl, rfl⟩
        · rw [h1] at k1; cases k1
        · exact ⟨sign_told hs (ht.d_not_nan hs) kz h1, rfl⟩
theorem far_plain {ax ay bx b_y d f : Nat} {p q : Bool} (h : FarIs ax ay bx b_y d p) (k : FarIs ax ay bx b_y f q) : p = q ∧ d = f ∧ (Ieee.double.order d d == some .eq) = true := by
  obtain ⟨x, y, m, n, s, ht, h⟩ := h
  obtain ⟨x', y', m', n', s', kt, k⟩ := k
  rcases h with ⟨hs, rfl, rfl⟩ | ⟨hs, rfl, rfl⟩
  · rcases k with ⟨ks, rfl, rfl⟩ | ⟨ks, _⟩
    · exact ⟨rfl, rfl, by decide⟩
    · have := kt.one ht ks
      rw [this, ks] at hs
      cases hs
  · have e := ht.one kt hs
    subst e
    rcases k with ⟨ks, _⟩ | ⟨ks, rfl, rfl⟩
    · rw [hs] at ks; cases ks
    · exact ⟨rfl, rfl, by rw [order_self _ (fin_not_nan (sure_fin hs).1)]; rfl⟩

set_option maxHeartbeats 1000000 in
set_option maxRecDepth 100000 in
theorem filterTells_walk (ax ay bx b_y cx cy : Nat) (w : World) :
    Calls Try.prog 6 #[.agg #[.int .u64 ax, .int .u64 ay], .agg #[.int .u64 bx, .int .u64 b_y], .agg #[.int .u64 cx, .int .u64 cy]] w fun e w' => e = .returned (.bool true) ∧ Below w.heap.size w w' := by
  go_enter Try.func6, Try.ntmps6
  go_wp2_with fail
  refine (awake7_calls _).mono ?_
  rintro e w1 ⟨rfl, hb⟩
  have B1 : Hid (Below w.heap.size w w1) := Below.trans ((((Below.refl _ w).alloc (Nat.le_refl _) _).alloc (by simp) _).alloc (by simp; omega) _) (hb.mono (by simp; omega))
  have pa : Pt w1 w.heap.size ax ay := (Pt.past (Pt.past (Pt.at1 (by simp)))).below hb
  have pb : Pt w1 (w.heap.size + 1) bx b_y := (Pt.past (Pt.at1 (by simp))).below hb
  have pc : Pt w1 (w.heap.size + 1 + 1) cx cy := (Pt.at1 (by simp)).below hb
  clear hb
  obtain ⟨ca0, ca1⟩ := pa
  obtain ⟨cb0, cb1⟩ := pb
  obtain ⟨cc0, cc1⟩ := pc
  go_wp2_with fail
  refine (turn_calls ax ay bx b_y cx cy _).mono ?_
  rintro e w2 ⟨n, ok, rfl, h, hb⟩
  have H1 := Lib.hid h
  have B2 : Hid (Below w.heap.size w w2) := B1.out.trans (hb.mono B1.out.size)
  replace ca0 := cell_below hb ca0
  replace ca1 := cell_below hb ca1
  replace cb0 := cell_below hb cb0
  replace cb1 := cell_below hb cb1
  replace cc0 := cell_below hb cc0
  replace cc1 := cell_below hb cc1
  clear hb h B1
  go_wp2_with fail
  refine (floats_calls ax ay bx b_y cx cy _).mono ?_
  rintro e w3 ⟨m, is, rfl, h, hb⟩
  have B3 : Hid (Below w.heap.size w w3) := B2.out.trans (hb.mono B2.out.size)
  obtain ⟨rfl, rfl⟩ := tells_plain H1.out h
  replace ca0 := cell_below hb ca0
  replace ca1 := cell_below hb ca1
  replace cb0 := cell_below hb cb0
  replace cb1 := cell_below hb cb1
  clear hb h B2 H1 cc0 cc1
  go_wp2_with fail
  refine (far_calls ax ay bx b_y _).mono ?_
  rintro e w4 ⟨d, p, rfl, h, hb⟩
  have H3 := Lib.hid h
  have B4 : Hid (Below w.heap.size w w4) := B3.out.trans (hb.mono B3.out.size)
  replace ca0 := cell_below hb ca0
  replace ca1 := cell_below hb ca1
  replace cb0 := cell_below hb cb0
  replace cb1 := cell_below hb cb1
  clear hb h B3
  go_wp2_with fail
  refine (rfar_calls ax ay bx b_y _).mono ?_
  rintro e w5 ⟨f, q, rfl, h, hb⟩
  have B5 : Hid (Below w.heap.size w w5) := B4.out.trans (hb.mono B4.out.size)
  obtain ⟨rfl, rfl, hdd⟩ := far_plain H3.out h
  have hdd' : (FloatKind.f64.format.order d d == some .eq) = true := hdd
  clear hb h B4 H3 ca0 ca1 cb0 cb1 hdd
  go_wp2_with fail
  go_ret
  exact ⟨rfl, B5.out⟩
end Go.Proofs.Ytmkpeihcchdjcaa
