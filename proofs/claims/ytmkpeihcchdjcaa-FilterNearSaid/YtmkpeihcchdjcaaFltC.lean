/- The walks of filter.Far, of outriggerlaw07's at and awake. -/
import Derived.Test.YtmkpeihcchdjcaaFltB
set_option linter.unusedVariables false
set_option linter.unusedSimpArgs false
namespace Go.Proofs.Ytmkpeihcchdjcaa
open Go.RowKit

theorem sqr_calls (x : Nat) (w : World) :
    Calls Try.prog 45 #[.float .f64 x] w fun e w' => ∃ r n, e = .returned (.float .f64 r) ∧ FR Ieee.double.mul x x r ∧ w' = w.drewN n := by
  go_enter Try.func45, Try.ntmps45
  go_wp2_with (refine wpList_float (o := ⟨some 5, _, _, _, _, _⟩) _ rfl .mul Ieee.double.mul (by simp) _ _ _ _ rfl x x rfl rfl ?_; intro r n hr; have hr' := Lib.hid hr; clear hr)
  go_ret
  exact ⟨r, n, rfl, hr'.out, rfl⟩

/-- The way of a far by floats. -/
structure FarTrace (ax ay bx b_y x y m n s : Nat) : Prop where
  x1 : FR Ieee.double.sub ax bx x
  y1 : FR Ieee.double.sub ay b_y y
  m1 : FR Ieee.double.mul x x m
  n1 : FR Ieee.double.mul y y n
  s1 : FR Ieee.double.add m n s
/-- What filter.Far answers. -/
def FarIs (ax ay bx b_y f : Nat) (ok : Bool) : Prop :=
  ∃ x y m n s, FarTrace ax ay bx b_y x y m n s ∧ ((sureB s = false ∧ f = 0 ∧ ok = false) ∨ (sureB s = true ∧ f = s ∧ ok = true))

set_option maxHeartbeats 1000000 in
set_option maxRecDepth 100000 in
theorem far_calls (ax ay bx b_y : Nat) (w : World) :
    Calls Try.prog 14 #[.agg #[.int .u64 ax, .int .u64 ay], .agg #[.int .u64 bx, .int .u64 b_y]] w fun e w' => ∃ f ok, e = .returned (.tuple #[.float .f64 f, .bool ok]) ∧ FarIs ax ay bx b_y f ok ∧ Below w.heap.size w w' := by
  go_enter Try.func14, Try.ntmps14
  go_wp2_with fail
  refine (of_calls ax ay _).mono ?_
  rintro e w1 ⟨rfl, hb1⟩
  have B1 : Hid (Below w.heap.size w w1) := Below.trans (((Below.refl _ w).alloc (Nat.le_refl _) _).alloc (by simp) _) (hb1.mono (by simp; omega))
  have cb0 : w1.cell? ⟨w.heap.size + 1, 0, none⟩ = some (.int .u64 bx) := cell_below hb1 (by rw [World.cell?_alloc_at _ _ _ _ (by simp)]; rfl)
  have cb1 : w1.cell? ⟨w.heap.size + 1, 1, none⟩ = some (.int .u64 b_y) := cell_below hb1 (by rw [World.cell?_alloc_at _ _ _ _ (by simp)]; rfl)
  clear hb1
  go_wp2_with fail
  refine (of_calls bx b_y _).mono ?_
  rintro e w2 ⟨rfl, hb2⟩
  have B2 : Hid (Below w.heap.size w w2) := B1.out.trans (hb2.mono B1.out.size)
  clear hb2 cb0 cb1 B1
  go_wp2_with (first | (refine wpList_float (o := ⟨some 24, _, _, _, _, _⟩) _ rfl .sub Ieee.double.sub (by simp) _ _ _ _ rfl (ax) (bx) rfl rfl ?_; intro x nx hx; have Hx := Lib.hid hx; clear hx))
  refine (sqr_calls x _).mono ?_
  rintro e w' ⟨m, nm, rfl, hm, rfl⟩
  have Hm := Lib.hid hm
  clear hm
  go_wp2_with (first | (refine wpList_float (o := ⟨some 29, _, _, _, _, _⟩) _ rfl .sub Ieee.double.sub (by simp) _ _ _ _ rfl (ay) (b_y) rfl rfl ?_; intro y ny hy; have Hy := Lib.hid hy; clear hy))
  refine (sqr_calls y _).mono ?_
  rintro e w' ⟨n, nn, rfl, hn, rfl⟩
  have Hn := Lib.hid hn
  clear hn
  go_wp2_with (first | (refine wpList_float (o := ⟨some 31, _, _, _, _, _⟩) _ rfl .add Ieee.double.add (by simp) _ _ _ _ rfl (m) (n) rfl rfl ?_; intro s ns hs; have Hs := Lib.hid hs; clear hs))
  have HT : Hid (FarTrace ax ay bx b_y x y m n s) := ⟨Hx.out, Hy.out, Hm.out, Hn.out, Hs.out⟩
  clear Hx Hy Hm Hn Hs
  obtain ⟨bs, hbs⟩ : ∃ bs, bs = sureB s := ⟨_, rfl⟩
  have csure := sure_calls s
  rw [← hbs] at csure
  have hbs' := Lib.hid hbs
  have csure' := Lib.hid csure
  clear hbs csure
  refine (csure'.out _).mono ?_
  rintro e w' ⟨rfl, rfl⟩
  clear csure'
  cases bs with
  | false =>
    go_wp2_with fail
    go_ret2
    exact ⟨0, false, rfl, ⟨x, y, m, n, s, HT.out, .inl ⟨hbs'.out.symm, rfl, rfl⟩⟩, below_drewN B2.out _⟩
  | true =>
    go_wp2_with fail
    go_ret2
    exact ⟨s, true, rfl, ⟨x, y, m, n, s, HT.out, .inr ⟨hbs'.out.symm, rfl, rfl⟩⟩, below_drewN B2.out _⟩

theorem at_calls (x y : Nat) (w : World) :
    Calls Try.prog 37 #[.float .f64 x, .float .f64 y] w fun e w' => e = .returned (.agg #[.int .u64 x, .int .u64 y]) ∧ Below w.heap.size w w' := by
  have h1 := run_bits x
  have h2 := run_bits y
  go_enter Try.func37, Try.ntmps37
  go_wp2
  exact bodyPost_ret (v := .agg #[.int .u64 x, .int .u64 y]) (by simp [results, Try.results37, go_sem]) rfl ⟨rfl, (Below.refl _ w).alloc (Nat.le_refl _) _⟩

theorem FR.det {f : Nat → Nat → Option Nat} {x y r v : Nat} (h : FR f x y r) (hv : f x y = some v) : r = v := by
  rcases h.1 with h | ⟨h, _⟩
  · rw [hv] at h; cases h; rfl
  · rw [hv] at h; cases h
/-- An answer that the way fixes. -/
theorem TurnIs.fixed {ax ay bx b_y cx cy : Nat} {n : Int} {ok : Bool} (h : TurnIs ax ay bx b_y cx cy n ok) {p q l u v r d s : Nat}
    (e1 : Ieee.double.sub ax cx = some p) (e2 : Ieee.double.sub b_y cy = some q) (e3 : Ieee.double.mul p q = some l) (e4 : Ieee.double.sub ay cy = some u) (e5 : Ieee.double.sub bx cx = some v) (e6 : Ieee.double.mul u v = some r) (e7 : Ieee.double.sub l r = some d) (e8 : Ieee.double.add (absB l) (absB r) = some s) :
    (sureB s = false ∧ n = 0 ∧ ok = false) ∨ (sureB s = true ∧ ∃ z, FR Ieee.double.mul s 4382002437431492608 z ∧
      (((Ieee.double.order (absB d) z == some .lt) = true ∧ n = 0 ∧ ok = false) ∨ ((Ieee.double.order (absB d) z == some .lt) = false ∧ n = signO d ∧ ok = true))) := by
  obtain ⟨p', q', l', u', v', r', d', s', ht, h⟩ := h
  have E1 := ht.p1.det e1
  subst E1
  have E2 := ht.q1.det e2
  subst E2
  have E3 := ht.l1.det e3
  subst E3
  have E4 := ht.u1.det e4
  subst E4
  have E5 := ht.v1.det e5
  subst E5
  have E6 := ht.r1.det e6
  subst E6
  have E7 := ht.d1.det e7
  subst E7
  have E8 := ht.s1.det e8
  subst E8
  exact h
theorem awk_turn1 {n : Int} {ok : Bool} (h : TurnIs 0 0 4607182418800017408 0 0 4607182418800017408 n ok) : n = 1 ∧ ok = true := by
  have h2 := h.fixed (p := 0) (q := 13830554455654793216) (l := 9223372036854775808) (u := 13830554455654793216) (v := 4607182418800017408) (r := 13830554455654793216) (d := 4607182418800017408) (s := 4607182418800017408) (by decide +kernel) (by decide +kernel) (by decide +kernel) (by decide +kernel) (by decide +kernel) (by decide +kernel) (by decide +kernel) (by decide +kernel)
  rcases h2 with ⟨h3, _⟩ | ⟨_, z, hz, h3⟩
  · exact absurd h3 (by decide +kernel)
  · have E := hz.det (v := 4382002437431492608) (by decide +kernel)
    subst E
    rcases h3 with ⟨h4, h5, h6⟩ | ⟨h4, h5, h6⟩
    · exact absurd h4 (by decide +kernel)
    · exact ⟨h5.trans (by decide +kernel), h6⟩
theorem awk_turn2 {n : Int} {ok : Bool} (h : TurnIs 0 0 4607182418800017408 4607182418800017408 4611686018427387904 4611686018427387904 n ok) : ok = false := by
  have h2 := h.fixed (p := 13835058055282163712) (q := 13830554455654793216) (l := 4611686018427387904) (u := 13835058055282163712) (v := 13830554455654793216) (r := 4611686018427387904) (d := 0) (s := 4616189618054758400) (by decide +kernel) (by decide +kernel) (by decide +kernel) (by decide +kernel) (by decide +kernel) (by decide +kernel) (by decide +kernel) (by decide +kernel)
  rcases h2 with ⟨h3, _⟩ | ⟨_, z, hz, h3⟩
  · exact absurd h3 (by decide +kernel)
  · have E := hz.det (v := 4391009636686233600) (by decide +kernel)
    subst E
    rcases h3 with ⟨h4, h5, h6⟩ | ⟨h4, h5, h6⟩
    · exact h6
    · exact absurd h4 (by decide +kernel)
theorem awk_far {f : Nat} {ok : Bool} (h : FarIs 0 0 4613937818241073152 4616189618054758400 f ok) : f = 4627730092099895296 ∧ ok = true := by
  obtain ⟨x, y, m, n, s, ht, h2⟩ := h
  have E1 := ht.x1.det (v := 13837309855095848960) (by decide +kernel)
  subst E1
  have E2 := ht.y1.det (v := 13839561654909534208) (by decide +kernel)
  subst E2
  have E3 := ht.m1.det (v := 4621256167635550208) (by decide +kernel)
  subst E3
  have E4 := ht.n1.det (v := 4625196817309499392) (by decide +kernel)
  subst E4
  have E5 := ht.s1.det (v := 4627730092099895296) (by decide +kernel)
  subst E5
  rcases h2 with ⟨h3, _⟩ | ⟨_, h4, h5⟩
  · exact absurd h3 (by decide +kernel)
  · exact ⟨h4, h5⟩

set_option maxHeartbeats 1000000 in
set_option maxRecDepth 100000 in
theorem awake7_calls (w : World) :
    Calls Try.prog 10 #[] w fun e w' => e = .returned (.bool true) ∧ Below w.heap.size w w' := by
  go_enter Try.func10, Try.ntmps10
  go_wp2_with fail
  refine (at_calls 0 0 _).mono ?_
  rintro e w1 ⟨rfl, hb⟩
  have B1 := Lib.hid hb
  clear hb
  go_wp2_with fail
  refine (at_calls 4607182418800017408 0 _).mono ?_
  rintro e w2 ⟨rfl, hb⟩
  have B2 : Hid (Below w.heap.size w w2) := B1.out.trans (hb.mono B1.out.size)
  clear hb
  go_wp2_with fail
  refine (at_calls 0 4607182418800017408 _).mono ?_
  rintro e w3 ⟨rfl, hb⟩
  have B3 : Hid (Below w.heap.size w w3) := B2.out.trans (hb.mono B2.out.size)
  clear hb
  go_wp2_with fail
  refine (turn_calls 0 0 4607182418800017408 0 0 4607182418800017408 _).mono ?_
  rintro e w4 ⟨n, ok, rfl, ht, hb⟩
  have B4 : Hid (Below w.heap.size w w4) := B3.out.trans (hb.mono B3.out.size)
  obtain ⟨rfl, rfl⟩ := awk_turn1 ht
  clear hb ht B1 B2 B3
  go_wp2_with fail
  refine (at_calls 0 0 _).mono ?_
  rintro e w5 ⟨rfl, hb⟩
  have B5 : Hid (Below w.heap.size w w5) := B4.out.trans (hb.mono B4.out.size)
  clear hb B4
  go_wp2_with fail
  refine (at_calls 4607182418800017408 4607182418800017408 _).mono ?_
  rintro e w6 ⟨rfl, hb⟩
  have B6 : Hid (Below w.heap.size w w6) := B5.out.trans (hb.mono B5.out.size)
  clear hb B5
  go_wp2_with fail
  refine (at_calls 4611686018427387904 4611686018427387904 _).mono ?_
  rintro e w7 ⟨rfl, hb⟩
  have B7 : Hid (Below w.heap.size w w7) := B6.out.trans (hb.mono B6.out.size)
  clear hb B6
  go_wp2_with fail
  refine (turn_calls 0 0 4607182418800017408 4607182418800017408 4611686018427387904 4611686018427387904 _).mono ?_
  rintro e w8 ⟨n2, ok2, rfl, ht, hb⟩
  have B8 : Hid (Below w.heap.size w w8) := B7.out.trans (hb.mono B7.out.size)
  obtain rfl := awk_turn2 ht
  clear hb ht B7
  go_wp2_with fail
  refine (at_calls 0 0 _).mono ?_
  rintro e w9 ⟨rfl, hb⟩
  have B9 : Hid (Below w.heap.size w w9) := B8.out.trans (hb.mono B8.out.size)
  clear hb B8
  go_wp2_with fail
  refine (at_calls 4613937818241073152 4616189618054758400 _).mono ?_
  rintro e w10 ⟨rfl, hb⟩
  have B10 : Hid (Below w.heap.size w w10) := B9.out.trans (hb.mono B9.out.size)
  clear hb B9
  go_wp2_with fail
  refine (far_calls 0 0 4613937818241073152 4616189618054758400 _).mono ?_
  rintro e w11 ⟨f, ok3, rfl, ht, hb⟩
  have B11 : Hid (Below w.heap.size w w11) := B10.out.trans (hb.mono B10.out.size)
  obtain ⟨rfl, rfl⟩ := awk_far ht
  clear hb ht B10
  have heq : (FloatKind.f64.format.order 4627730092099895296 4627730092099895296 == some .eq) = true := by decide +kernel
  go_wp2_with fail
  go_ret
  exact ⟨rfl, B11.out⟩
end Go.Proofs.Ytmkpeihcchdjcaa
