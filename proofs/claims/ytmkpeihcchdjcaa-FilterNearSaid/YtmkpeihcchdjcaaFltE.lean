/- The walk of outriggerlaw07.FilterTurned. -/
import Derived.Test.YtmkpeihcchdjcaaFltC
import Derived.Test.YtmkpeihcchdjcaaFltD
set_option linter.unusedVariables false
set_option linter.unusedSimpArgs false
namespace Go.Proofs.Ytmkpeihcchdjcaa
open Go.RowKit

/-- A far's way, where it is sure. -/
theorem FarTrace.fins {ax ay bx b_y x y m n s : Nat} (h : FarTrace ax ay bx b_y x y m n s) (hs : sureB s = true) : isFin ax ∧ isFin ay ∧ isFin bx ∧ isFin b_y ∧ isFin x ∧ isFin y ∧ isFin m ∧ isFin n ∧ isFin s := by
  obtain ⟨hf, _⟩ := sure_fin hs
  obtain ⟨hm, hn⟩ := add_fin (h.s1.fin hf) hf
  obtain ⟨hx, _⟩ := mul_fin (h.m1.fin hm) hm
  obtain ⟨hy, _⟩ := mul_fin (h.n1.fin hn) hn
  obtain ⟨h1, h2⟩ := sub_fin (h.x1.fin hx) hx
  obtain ⟨h3, h4⟩ := sub_fin (h.y1.fin hy) hy
  exact ⟨h1, h3, h2, h4, hx, hy, hm, hn, hf⟩
theorem sub_same {x r : Nat} (h : Ieee.double.sub x x = some r) (hr : isFin r) : val r = 0 := by
  obtain ⟨h1, _⟩ := sub_fin h hr
  have h2 := sub_near h1 h1 h hr
  rw [Int.sub_self, Int.natAbs_zero] at h2
  omega
theorem mul_nought {x r : Nat} (h : Ieee.double.mul x x = some r) (hr : isFin r) (h0 : val x = 0) : val r = 0 := by
  obtain ⟨h1, _⟩ := mul_fin h hr
  have h2 := mul_near h1 h1 h hr
  rw [h0, Int.zero_mul, Int.natAbs_zero, Int.sub_zero, ← natAbs_mul_nat] at h2
  have h3 : 2 * (val r).natAbs ≤ 1 := by
    refine Nat.le_of_mul_le_mul_right (c := 4503599627370496 * K1074) ?_ (Nat.mul_pos (by omega) K1074_pos)
    have e1 : 2 * (val r).natAbs * (4503599627370496 * K1074) = 9007199254740992 * ((val r).natAbs * K1074) := by
      generalize (val r).natAbs = v
      rw [← Nat.mul_assoc, ← Nat.mul_assoc]
      congr 1
      omega
    rw [e1]
    omega
  omega
/-- A point is never surely far from itself. -/
theorem far_same {ax ay f : Nat} {ok : Bool} (h : FarIs ax ay ax ay f ok) : ok = false := by
  obtain ⟨x, y, m, n, s, ht, ⟨_, _, h⟩ | ⟨hs, _, _⟩⟩ := h
  · exact h
  · exfalso
    obtain ⟨_, _, _, _, hx, hy, hm, hn, hf⟩ := ht.fins hs
    have x0 := sub_same (ht.x1.fin hx) hx
    have y0 := sub_same (ht.y1.fin hy) hy
    have m0 := mul_nought (ht.m1.fin hm) hm x0
    have n0 := mul_nought (ht.n1.fin hn) hn y0
    have h2 := add_near hm hn (ht.s1.fin hf) hf
    rw [m0, n0] at h2
    have h3 := (sure_fin hs).2
    generalize val s = v at *
    omega

/-- The law's plain part. -/
theorem turned_plain {ax ay bx b_y cx cy f : Nat} {n m k : Int} {ok i no nor : Bool} (h1 : TurnIs ax ay bx b_y cx cy n ok) (h2 : TurnIs bx b_y ax ay cx cy m i) (h3 : TurnIs ax ay ax ay cx cy k no) (h4 : FarIs ax ay ax ay f nor) :
    no = false ∧ nor = false ∧ (ok = true → i = true → n = -m) ∧ -1 ≤ m ∧ m ≤ 1 := by
  refine ⟨turn_same h3, far_same h4, ?_, ?_⟩
  · rintro rfl rfl
    exact turn_other h1 h2
  · obtain ⟨p, q, l, u, v, r, d, s, _, ⟨_, rfl, _⟩ | ⟨_, z, _, ⟨_, rfl, _⟩ | ⟨_, rfl, _⟩⟩⟩ := h2
    · omega
    · omega
    · unfold signO
      split <;> omega

/-- A block's two cells. -/
def Pt (w : World) (b x y : Nat) : Prop := w.cell? ⟨b, 0, none⟩ = some (.int .u64 x) ∧ w.cell? ⟨b, 1, none⟩ = some (.int .u64 y)
theorem Pt.below {w w' : World} {b x y : Nat} (h : Pt w b x y) (hb : Below w.heap.size w w') : Pt w' b x y := ⟨cell_below hb h.1, cell_below hb h.2⟩
theorem Pt.at1 {w : World} {x y n : Nat} {t : TypeId} (h : w.heap.size = n) : Pt (w.alloc (.cells #[.int .u64 x, .int .u64 y] t)) n x y := by
  subst h
  exact ⟨by rw [World.cell?_alloc_at _ _ _ _ rfl]; rfl, by rw [World.cell?_alloc_at _ _ _ _ rfl]; rfl⟩
theorem Pt.past {w : World} {b x y : Nat} {o : Obj} (h : Pt w b x y) : Pt (w.alloc o) b x y :=
  h.below ((Below.refl _ w).alloc (Nat.le_refl _) o)

set_option maxHeartbeats 1000000 in
set_option maxRecDepth 100000 in
theorem filterTurned_walk (ax ay bx b_y cx cy : Nat) (w : World) :
    Calls Try.prog 5 #[.agg #[.int .u64 ax, .int .u64 ay], .agg #[.int .u64 bx, .int .u64 b_y], .agg #[.int .u64 cx, .int .u64 cy]] w fun e w' => e = .returned (.bool true) ∧ Below w.heap.size w w' := by
  go_enter Try.func5, Try.ntmps5
  go_wp2_with fail
  refine (awake7_calls _).mono ?_
  rintro e w1 ⟨rfl, hb⟩
  have B1 : Hid (Below w.heap.size w w1) := Below.trans ((((Below.refl _ w).alloc (Nat.le_refl _) _).alloc (by simp) _).alloc (by simp; omega) _) (hb.mono (by simp; omega))
  have pa : Pt w1 w.heap.size ax ay := (Pt.past (Pt.past (Pt.at1 (by simp)))).below hb
  have pb : Pt w1 (w.heap.size + 1) bx b_y := (Pt.past (Pt.at1 (by simp))).below hb
  have pc : Pt w1 (w.heap.size + 1 + 1) cx cy := (Pt.at1 (by simp)).below hb
  clear hb
  obtain ⟨ca0, ca1⟩ := pa
  obtain ⟨cb0, cb1⟩ := pb
  obtain ⟨cc0, cc1⟩ := pc
  go_wp2_with fail
  refine (turn_calls ax ay bx b_y cx cy _).mono ?_
  rintro e w2 ⟨n, ok, rfl, h, hb⟩
  have H1 := Lib.hid h
  have B2 : Hid (Below w.heap.size w w2) := B1.out.trans (hb.mono B1.out.size)
  replace ca0 := cell_below hb ca0
  replace ca1 := cell_below hb ca1
  replace cb0 := cell_below hb cb0
  replace cb1 := cell_below hb cb1
  replace cc0 := cell_below hb cc0
  replace cc1 := cell_below hb cc1
  clear hb h B1
  go_wp2_with fail
  refine (turn_calls bx b_y ax ay cx cy _).mono ?_
  rintro e w3 ⟨m, is, rfl, h, hb⟩
  have H2 := Lib.hid h
  have B3 : Hid (Below w.heap.size w w3) := B2.out.trans (hb.mono B2.out.size)
  replace ca0 := cell_below hb ca0
  replace ca1 := cell_below hb ca1
  replace cb0 := cell_below hb cb0
  replace cb1 := cell_below hb cb1
  replace cc0 := cell_below hb cc0
  replace cc1 := cell_below hb cc1
  clear hb h B2
  go_wp2_with fail
  refine (turn_calls ax ay ax ay cx cy _).mono ?_
  rintro e w4 ⟨k, no, rfl, h, hb⟩
  have H3 := Lib.hid h
  have B4 : Hid (Below w.heap.size w w4) := B3.out.trans (hb.mono B3.out.size)
  replace ca0 := cell_below hb ca0
  replace ca1 := cell_below hb ca1
  clear hb h B3 cb0 cb1 cc0 cc1
  go_wp2_with fail
  refine (far_calls ax ay ax ay _).mono ?_
  rintro e w5 ⟨f, nor, rfl, h, hb⟩
  have B5 : Hid (Below w.heap.size w w5) := B4.out.trans (hb.mono B4.out.size)
  obtain ⟨rfl, rfl, hp, hm1, hm2⟩ := turned_plain H1.out H2.out H3.out h
  have hw : IntKind.i64.wrap (-m) = -m := by rcases (by omega : m = -1 ∨ m = 0 ∨ m = 1) with rfl | rfl | rfl <;> decide
  clear hb h B4 H1 H2 H3 hm1 hm2 ca0 ca1
  cases ok with
  | false =>
    go_wp2_with fail
    go_ret
    exact ⟨rfl, B5.out⟩
  | true =>
    cases is with
    | false =>
      go_wp2_with fail
      go_ret
      exact ⟨rfl, B5.out⟩
    | true =>
      obtain rfl := hp rfl rfl
      go_wp2_with fail
      go_ret
      exact ⟨rfl, B5.out⟩
end Go.Proofs.Ytmkpeihcchdjcaa
