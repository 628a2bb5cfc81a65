/- The walk of outriggerlaw07.FilterSure. -/
import Derived.Test.YtmkpeihcchdjcaaRefL
import Derived.Test.YtmkpeihcchdjcaaFltJ
set_option linter.unusedVariables false
set_option linter.unusedSimpArgs false
namespace Go.Proofs.Ytmkpeihcchdjcaa
open Go.RowKit

theorem TurnIs.no {ax ay bx b_y cx cy : Nat} {n : Int} (h : TurnIs ax ay bx b_y cx cy n false) : n = 0 := by
  obtain ⟨p, q, l, u, v, r, d, s, _, ⟨_, rfl, _⟩ | ⟨_, z, _, ⟨_, rfl, _⟩ | ⟨_, _, h⟩⟩⟩ := h
  · rfl
  · rfl
  · cases h
set_option maxHeartbeats 1000000 in
set_option maxRecDepth 100000 in
theorem filterSure_walk (ax ay bx b_y cx cy : Nat) (w : World) (h1 : ax < 18446744073709551616) (h2 : ay < 18446744073709551616) (h3 : bx < 18446744073709551616) (h4 : b_y < 18446744073709551616) (h5 : cx < 18446744073709551616) (h6 : cy < 18446744073709551616) :
    Calls Try.prog 3 #[.agg #[.int .u64 ax, .int .u64 ay], .agg #[.int .u64 bx, .int .u64 b_y], .agg #[.int .u64 cx, .int .u64 cy]] w fun e w' => e = .returned (.bool true) ∧ Below w.heap.size w w' := by
  have ga := Lib.hid (good_calls ax ay h1 h2)
  have gb := Lib.hid (good_calls bx b_y h3 h4)
  have gc := Lib.hid (good_calls cx cy h5 h6)
  have rt := Lib.hid (fun w => rturn_calls ax ay bx b_y cx cy w h1 h2 h3 h4 h5 h6)
  clear h1 h2 h3 h4 h5 h6
  go_enter Try.func3, Try.ntmps3
  go_wp2_with fail
  refine (awake7_calls _).mono ?_
  rintro e w1 ⟨rfl, hb⟩
  have B1 : Hid (Below w.heap.size w w1) := Below.trans ((((Below.refl _ w).alloc (Nat.le_refl _) _).alloc (by simp) _).alloc (by simp; omega) _) (hb.mono (by simp; omega))
  have pa : Pt w1 w.heap.size ax ay := (Pt.past (Pt.past (Pt.at1 (by simp)))).below hb
  have pb : Pt w1 (w.heap.size + 1) bx b_y := (Pt.past (Pt.at1 (by simp))).below hb
  have pc : Pt w1 (w.heap.size + 1 + 1) cx cy := (Pt.at1 (by simp)).below hb
  clear hb
  obtain ⟨ca0, ca1⟩ := pa
  obtain ⟨cb0, cb1⟩ := pb
  obtain ⟨cc0, cc1⟩ := pc
  go_wp2_with fail
  refine (turn_calls ax ay bx b_y cx cy _).mono ?_
  rintro e w2 ⟨n, ok, rfl, h, hb⟩
  have H1 := Lib.hid h
  have B2 : Hid (Below w.heap.size w w2) := B1.out.trans (hb.mono B1.out.size)
  replace ca0 := cell_below hb ca0
  replace ca1 := cell_below hb ca1
  replace cb0 := cell_below hb cb0
  replace cb1 := cell_below hb cb1
  replace cc0 := cell_below hb cc0
  replace cc1 := cell_below hb cc1
  clear hb h B1
  cases ok with
  | false =>
    obtain rfl := H1.out.no
    clear rt H1
    go_wp2_with fail
    refine (ga.out _).mono ?_
    rintro e w3 ⟨b, rfl, hg, hb⟩
    have B3 : Hid (Below w.heap.size w w3) := B2.out.trans (hb.mono B2.out.size)
    replace cb0 := cell_below hb cb0
    replace cb1 := cell_below hb cb1
    replace cc0 := cell_below hb cc0
    replace cc1 := cell_below hb cc1
    clear hb hg B2 ga ca0 ca1
    cases b with
    | false =>
      go_wp2_with fail
      go_ret
      exact ⟨rfl, B3.out⟩
    | true =>
      go_wp2_with fail
      refine (gb.out _).mono ?_
      rintro e w4 ⟨b, rfl, hg, hb⟩
      have B4 : Hid (Below w.heap.size w w4) := B3.out.trans (hb.mono B3.out.size)
      replace cc0 := cell_below hb cc0
      replace cc1 := cell_below hb cc1
      clear hb hg B3 gb cb0 cb1
      cases b with
      | false =>
        go_wp2_with fail
        go_ret
        exact ⟨rfl, B4.out⟩
      | true =>
        go_wp2_with fail
        refine (gc.out _).mono ?_
        rintro e w5 ⟨b, rfl, hg, hb⟩
        have B5 : Hid (Below w.heap.size w w5) := B4.out.trans (hb.mono B4.out.size)
        clear hb hg B4 gc cc0 cc1
        cases b with
        | false =>
          go_wp2_with fail
          go_ret
          exact ⟨rfl, B5.out⟩
        | true =>
          go_wp2_with fail
          go_ret
          exact ⟨rfl, B5.out⟩
  | true =>
    obtain ⟨⟨f1, f2, f3, f4, f5, f6⟩, hn, hn0⟩ := turn_true H1.out
    have rt2 := Lib.hid (fun w => rt.out w f1 f2 f3 f4 f5 f6)
    clear rt H1
    have fa := Lib.hid (show isFin ax ∧ isFin ay from ⟨f1, f2⟩)
    have fb := Lib.hid (show isFin bx ∧ isFin b_y from ⟨f3, f4⟩)
    have fc := Lib.hid (show isFin cx ∧ isFin cy from ⟨f5, f6⟩)
    clear f1 f2 f3 f4 f5 f6
    rw [← hn] at rt2
    have hz1 : (n == 0) = false := by simpa using hn0
    have hz2 : (n != 0) = true := by simpa using hn0
    clear hn hn0
    go_wp2_with fail
    refine (ga.out _).mono ?_
    rintro e w3 ⟨b, rfl, hg, hb⟩
    obtain rfl := hg.2 fa.out
    have B3 : Hid (Below w.heap.size w w3) := B2.out.trans (hb.mono B2.out.size)
    replace ca0 := cell_below hb ca0
    replace ca1 := cell_below hb ca1
    replace cb0 := cell_below hb cb0
    replace cb1 := cell_below hb cb1
    replace cc0 := cell_below hb cc0
    replace cc1 := cell_below hb cc1
    clear hb hg B2 ga
    go_wp2_with fail
    refine (gb.out _).mono ?_
    rintro e w4 ⟨b, rfl, hg, hb⟩
    obtain rfl := hg.2 fb.out
    have B4 : Hid (Below w.heap.size w w4) := B3.out.trans (hb.mono B3.out.size)
    replace ca0 := cell_below hb ca0
    replace ca1 := cell_below hb ca1
    replace cb0 := cell_below hb cb0
    replace cb1 := cell_below hb cb1
    replace cc0 := cell_below hb cc0
    replace cc1 := cell_below hb cc1
    clear hb hg B3 gb
    go_wp2_with fail
    refine (gc.out _).mono ?_
    rintro e w5 ⟨b, rfl, hg, hb⟩
    obtain rfl := hg.2 fc.out
    have B5 : Hid (Below w.heap.size w w5) := B4.out.trans (hb.mono B4.out.size)
    replace ca0 := cell_below hb ca0
    replace ca1 := cell_below hb ca1
    replace cb0 := cell_below hb cb0
    replace cb1 := cell_below hb cb1
    replace cc0 := cell_below hb cc0
    replace cc1 := cell_below hb cc1
    clear hb hg B4 gc
    go_wp2_with fail
    refine (rt2.out _).mono ?_
    rintro e w6 ⟨rfl, hb⟩
    have B6 : Hid (Below w.heap.size w w6) := B5.out.trans (hb.mono B5.out.size)
    clear hb B5 rt2 ca0 ca1 cb0 cb1 cc0 cc1
    go_wp2_with fail
    go_ret
    exact ⟨rfl, B6.out⟩
end Go.Proofs.Ytmkpeihcchdjcaa
