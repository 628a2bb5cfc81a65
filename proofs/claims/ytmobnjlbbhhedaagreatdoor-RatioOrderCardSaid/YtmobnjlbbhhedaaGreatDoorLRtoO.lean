/- The walk of the statement RatioOrder. -/
import Derived.Test.YtmobnjlbbhhedaaGreatDoorAwk4
import Derived.Test.YtmobnjlbbhhedaaGreatDoorReD
import Derived.Test.YtmobnjlbbhhedaaGreatDoorRefF
set_option linter.unusedVariables false
set_option linter.unusedSimpArgs false
namespace Go.Proofs.YtmobnjlbbhhedaaGreatDoor
open Go.RowKit

theorem three_in (w : World) (x y z : Array Value) (t : TypeId) :
    (((w.alloc (.cells x t)).alloc (.cells y t)).alloc (.cells z t)).heap[w.heap.size]? = some (.cells x t (0, 0)) ∧
    (((w.alloc (.cells x t)).alloc (.cells y t)).alloc (.cells z t)).heap[w.heap.size + 1]? = some (.cells y t (0, 0)) ∧
    (((w.alloc (.cells x t)).alloc (.cells y t)).alloc (.cells z t)).heap[w.heap.size + 1 + 1]? = some (.cells z t (0, 0)) ∧
    Below w.heap.size w (((w.alloc (.cells x t)).alloc (.cells y t)).alloc (.cells z t)) ∧
    (((w.alloc (.cells x t)).alloc (.cells y t)).alloc (.cells z t)).heap.size = w.heap.size + 3 := by
  refine ⟨?_, ?_, alloc_at (by simp), (((Below.refl _ w).alloc (Nat.le_refl _) _).alloc (by simp) _).alloc (by simp; omega) _, by simp⟩
  · exact ((Below.refl (w.heap.size + 1) _).alloc (by simp <;> omega) _).block _ (by omega) |>.trans ((((Below.refl (w.heap.size + 1) _).alloc (by simp) _).block _ (by omega)).trans (alloc_at rfl))
  · exact (((Below.refl (w.heap.size + 2) _).alloc (by simp) _).block _ (by omega)).trans (alloc_at (by simp))
theorem cell_blk {w : World} {g i : Nat} {cs : Array Value} {t : TypeId} {fr : Nat × Nat} {v : Value} (h : w.heap[g]? = some (.cells cs t fr)) (hi : cs[i]? = some v) : w.cell? ⟨g, i, none⟩ = some v := by
  simp [World.cell?, h, hi]
theorem sgn_ne {s : Bool} {X : Nat} (h : 0 < X) : sgn s X ≠ 0 := by
  cases s <;> simp [sgn] <;> omega
theorem cmpQ_range (a b c d : Int) : -1 ≤ cmpQ a b c d ∧ cmpQ a b c d ≤ 1 := by
  unfold cmpQ
  rcases sign_three b with h | h | h <;> rcases sign_three d with k | k | k <;> rcases sign_three (a * d - c * b) with l | l | l <;> rw [h, k, l] <;> decide
theorem sign_zero_iff {s : Bool} {X : Nat} : (if sgn s X < 0 then -1 else if sgn s X = 0 then (0 : Int) else 1) = 0 ↔ X = 0 := by
  rw [sign_if, Int.sign_eq_zero_iff_zero]
  cases s <;> simp [sgn]
set_option maxHeartbeats 8000000 in
set_option maxRecDepth 100000 in
theorem ratioOrder_walk (s1 : Bool) (A1 : Option Addr) (n1 c1 X1 : Nat) (t1 : Bool) (D1 : Option Addr) (m1 d1 Y1 : Nat) (s2 : Bool) (A2 : Option Addr) (n2 c2 X2 : Nat) (t2 : Bool) (D2 : Option Addr) (m2 d2 Y2 : Nat) (s3 : Bool) (A3 : Option Addr) (n3 c3 X3 : Nat) (t3 : Bool) (D3 : Option Addr) (m3 d3 Y3 : Nat) (w : World)
    (h1 : Num .u64 B64 w (.slice A1 n1 c1) X1 n1) (k1 : Num .u64 B64 w (.slice D1 m1 d1) Y1 m1) (h2 : Num .u64 B64 w (.slice A2 n2 c2) X2 n2) (k2 : Num .u64 B64 w (.slice D2 m2 d2) Y2 m2) (h3 : Num .u64 B64 w (.slice A3 n3 c3) X3 n3) (k3 : Num .u64 B64 w (.slice D3 m3 d3) Y3 m3)
    (hT : TabAt w) (htab : Lib.TabIs Tryz.prog w "internal/strconv.uint64pow10" .u64 Lib.pow10Tab) :
    Calls Tryz.prog 4 #[.agg #[.bool s1, .slice A1 n1 c1, .bool t1, .slice D1 m1 d1], .agg #[.bool s2, .slice A2 n2 c2, .bool t2, .slice D2 m2 d2], .agg #[.bool s3, .slice A3 n3 c3, .bool t3, .slice D3 m3 d3]] w fun e w' => e = .returned (.bool true) ∧ Below w.heap.size w w' := by
  have T := Lib.hid hT
  have TT := Lib.hid (Lib.tabBelow_of_tabIs htab)
  have H1 := Lib.hid h1
  have H2 := Lib.hid h2
  have H3 := Lib.hid h3
  have K1 := Lib.hid k1
  have K2 := Lib.hid k2
  have K3 := Lib.hid k3
  clear hT htab h1 h2 h3 k1 k2 k3
  go_enter Tryz.func4, Tryz.ntmps4
  go_wp2_with fail
  have E := three_in w #[.bool s1, .slice A1 n1 c1, .bool t1, .slice D1 m1 d1] #[.bool s2, .slice A2 n2 c2, .bool t2, .slice D2 m2 d2] #[.bool s3, .slice A3 n3 c3, .bool t3, .slice D3 m3 d3] 26
  generalize (((w.alloc (.cells #[.bool s1, .slice A1 n1 c1, .bool t1, .slice D1 m1 d1] 26)).alloc (.cells #[.bool s2, .slice A2 n2 c2, .bool t2, .slice D2 m2 d2] 26)).alloc (.cells #[.bool s3, .slice A3 n3 c3, .bool t3, .slice D3 m3 d3] 26)) = W at *
  obtain ⟨E1, E2, E3, EB, ES⟩ := E
  refine (awake4_calls W (T.out.below EB) (TT.out _ EB)).mono ?_
  rintro e w1 ⟨rfl, hb⟩
  have B1 := Lib.hid (below_next' EB hb)
  replace E1 := (hb.block _ (by omega)).trans E1
  replace E2 := (hb.block _ (by omega)).trans E2
  replace E3 := (hb.block _ (by omega)).trans E3
  obtain ⟨⟨x0, x1, x2, x3⟩, _⟩ := kept4 E1
  obtain ⟨⟨y0, y1, y2, y3⟩, _⟩ := kept4 E2
  obtain ⟨⟨z0, z1, z2, z3⟩, _⟩ := kept4 E3
  clear hb EB E1 E2 E3
  go_wp2_with fail
  have hLit := alloc_at (w := w1) (o := .cells #[.bool s1, .slice A1 n1 c1, .bool t1, .slice D1 m1 d1, .bool s2, .slice A2 n2 c2, .bool t2, .slice D2 m2 d2, .bool s3, .slice A3 n3 c3, .bool t3, .slice D3 m3 d3] 26) rfl
  have hBa : Below w1.heap.size w1 (w1.alloc (.cells #[.bool s1, .slice A1 n1 c1, .bool t1, .slice D1 m1 d1, .bool s2, .slice A2 n2 c2, .bool t2, .slice D2 m2 d2, .bool s3, .slice A3 n3 c3, .bool t3, .slice D3 m3 d3] 26)) := (Below.refl _ _).alloc (Nat.le_refl _) _
  have hsz : (w1.alloc (.cells #[.bool s1, .slice A1 n1 c1, .bool t1, .slice D1 m1 d1, .bool s2, .slice A2 n2 c2, .bool t2, .slice D2 m2 d2, .bool s3, .slice A3 n3 c3, .bool t3, .slice D3 m3 d3] 26)).heap.size = w1.heap.size + 1 := by simp
  generalize (w1.alloc (.cells #[.bool s1, .slice A1 n1 c1, .bool t1, .slice D1 m1 d1, .bool s2, .slice A2 n2 c2, .bool t2, .slice D2 m2 d2, .bool s3, .slice A3 n3 c3, .bool t3, .slice D3 m3 d3] 26)) = W2 at *
  have BW : Hid (∀ wr, Below W2.heap.size W2 wr → Below w.heap.size w wr) := fun wr hb => below_next' B1.out (hBa.trans (hb.mono (by omega)))
  have CX : Hid (∀ wr, Below W2.heap.size W2 wr → ∀ a v, w1.cell? a = some v → wr.cell? a = some v) := fun wr hb a v h => cell_below hb (cell_below hBa h)
  have LH := Lib.hid hLit
  have xH := Lib.hid (And.intro x0 (And.intro x1 (And.intro x2 x3)))
  have yH := Lib.hid (And.intro y0 (And.intro y1 (And.intro y2 y3)))
  have zH := Lib.hid (And.intro z0 (And.intro z1 (And.intro z2 z3)))
  clear hLit hBa x0 x1 x2 x3 y0 y1 y2 y3 z0 z1 z2 z3
  go_loopw [8] (fun v8 wr => ∃ i : Nat, v8 = .int .i64 i ∧ i ≤ 3 ∧ (0 < i → n1 ≤ 4 ∧ m1 ≤ 4 ∧ 0 < Y1) ∧ (1 < i → n2 ≤ 4 ∧ m2 ≤ 4 ∧ 0 < Y2) ∧ (2 < i → n3 ≤ 4 ∧ m3 ≤ 4 ∧ 0 < Y3) ∧ Hid (Below W2.heap.size W2 wr)) (fun v _ => 3 - (intOf v).toNat)
  case atStart => exact ⟨0, rfl, by omega, fun h => by omega, fun h => by omega, fun h => by omega, Below.refl _ _⟩
  case round =>
    obtain ⟨i, rfl, hi, ok1, ok2, ok3, hbel⟩ := hrel
    by_cases hlt : i < 3
    · have hL := (hbel.out.block w1.heap.size (by omega)).trans LH.out
      rcases (by omega : i = 0 ∨ i = 1 ∨ i = 2) with rfl | rfl | rfl
      · have l1 := cell_blk (i := 1) hL rfl
        have l2 := cell_blk (i := 2) hL rfl
        have l3 := cell_blk (i := 3) hL rfl
        by_cases hn : n1 ≤ 4
        · by_cases hm : m1 ≤ 4
          · clear hL
            go_wp2_with fail
            refine (fromz_calls _ (sgn t1 Y1) m1 _ (AInt.mk (K1.out.below (BW.out _ hbel.out))) (by omega)).mono ?_
            rintro e w3 ⟨v3, rfl, hR, hb⟩
            have B3 := Lib.hid (hbel.out.trans (hb.mono hbel.out.size))
            have HR := Lib.hid hR
            clear hR hb hbel
            go_wp2_with fail
            refine (sign_calls _ _ _ _ HR.out).mono ?_
            rintro e w4 ⟨rfl, hb⟩
            have B4 := Lib.hid (B3.out.trans (hb.mono B3.out.size))
            have hzi := sign_zero_iff (s := t1) (X := Y1)
            obtain ⟨zs, hzs⟩ : ∃ zs, zs = (if sgn t1 Y1 < 0 then -1 else if sgn t1 Y1 = 0 then (0 : Int) else 1) := ⟨_, rfl⟩
            rw [← hzs] at hzi
            rw [← hzs]
            clear hzs hb B3 HR
            by_cases hY : Y1 = 0
            · have hz0 : zs = 0 := hzi.2 hY
              subst hz0
              clear hzi hY
              go_wp2_with fail
              go_ret
              exact ⟨rfl, BW.out _ B4.out⟩
            · have hz0 : (zs == 0) = false := by simp; intro h; exact hY (hzi.1 h)
              have hYp : 0 < Y1 := by omega
              clear hzi hY
              go_wp2_with fail
              go_roundw
              case rel => exact ⟨1, rfl, by omega, fun _ => ⟨hn, hm, hYp⟩, fun h => by omega, fun h => by omega, B4⟩
              case measure => simp [intOf]
          · have hm2 : 4 < m1 := by omega
            clear hL
            go_wp2_with fail
            go_ret
            exact ⟨rfl, BW.out _ hbel.out⟩
        · have hn2 : 4 < n1 := by omega
          clear hL
          go_wp2_with fail
          go_ret
          exact ⟨rfl, BW.out _ hbel.out⟩
      · have l1 := cell_blk (i := 5) hL rfl
        have l2 := cell_blk (i := 6) hL rfl
        have l3 := cell_blk (i := 7) hL rfl
        by_cases hn : n2 ≤ 4
        · by_cases hm : m2 ≤ 4
          · clear hL
            go_wp2_with fail
            refine (fromz_calls _ (sgn t2 Y2) m2 _ (AInt.mk (K2.out.below (BW.out _ hbel.out))) (by omega)).mono ?_
            rintro e w3 ⟨v3, rfl, hR, hb⟩
            have B3 := Lib.hid (hbel.out.trans (hb.mono hbel.out.size))
            have HR := Lib.hid hR
            clear hR hb hbel
            go_wp2_with fail
            refine (sign_calls _ _ _ _ HR.out).mono ?_
            rintro e w4 ⟨rfl, hb⟩
            have B4 := Lib.hid (B3.out.trans (hb.mono B3.out.size))
            have hzi := sign_zero_iff (s := t2) (X := Y2)
            obtain ⟨zs, hzs⟩ : ∃ zs, zs = (if sgn t2 Y2 < 0 then -1 else if sgn t2 Y2 = 0 then (0 : Int) else 1) := ⟨_, rfl⟩
            rw [← hzs] at hzi
            rw [← hzs]
            clear hzs hb B3 HR
            by_cases hY : Y2 = 0
            · have hz0 : zs = 0 := hzi.2 hY
              subst hz0
              clear hzi hY
              go_wp2_with fail
              go_ret
              exact ⟨rfl, BW.out _ B4.out⟩
            · have hz0 : (zs == 0) = false := by simp; intro h; exact hY (hzi.1 h)
              have hYp : 0 < Y2 := by omega
              clear hzi hY
              go_wp2_with fail
              go_roundw
              case rel => exact ⟨2, rfl, by omega, (fun _ => ok1 (by omega)), fun _ => ⟨hn, hm, hYp⟩, fun h => by omega, B4⟩
              case measure => simp [intOf]
          · have hm2 : 4 < m2 := by omega
            clear hL
            go_wp2_with fail
            go_ret
            exact ⟨rfl, BW.out _ hbel.out⟩
        · have hn2 : 4 < n2 := by omega
          clear hL
          go_wp2_with fail
          go_ret
          exact ⟨rfl, BW.out _ hbel.out⟩
      · have l1 := cell_blk (i := 9) hL rfl
        have l2 := cell_blk (i := 10) hL rfl
        have l3 := cell_blk (i := 11) hL rfl
        by_cases hn : n3 ≤ 4
        · by_cases hm : m3 ≤ 4
          · clear hL
            go_wp2_with fail
            refine (fromz_calls _ (sgn t3 Y3) m3 _ (AInt.mk (K3.out.below (BW.out _ hbel.out))) (by omega)).mono ?_
            rintro e w3 ⟨v3, rfl, hR, hb⟩
            have B3 := Lib.hid (hbel.out.trans (hb.mono hbel.out.size))
            have HR := Lib.hid hR
            clear hR hb hbel
            go_wp2_with fail
            refine (sign_calls _ _ _ _ HR.out).mono ?_
            rintro e w4 ⟨rfl, hb⟩
            have B4 := Lib.hid (B3.out.trans (hb.mono B3.out.size))
            have hzi := sign_zero_iff (s := t3) (X := Y3)
            obtain ⟨zs, hzs⟩ : ∃ zs, zs = (if sgn t3 Y3 < 0 then -1 else if sgn t3 Y3 = 0 then (0 : Int) else 1) := ⟨_, rfl⟩
            rw [← hzs] at hzi
            rw [← hzs]
            clear hzs hb B3 HR
            by_cases hY : Y3 = 0
            · have hz0 : zs = 0 := hzi.2 hY
              subst hz0
              clear hzi hY
              go_wp2_with fail
              go_ret
              exact ⟨rfl, BW.out _ B4.out⟩
            · have hz0 : (zs == 0) = false := by simp; intro h; exact hY (hzi.1 h)
              have hYp : 0 < Y3 := by omega
              clear hzi hY
              go_wp2_with fail
              go_roundw
              case rel => exact ⟨3, rfl, by omega, (fun _ => ok1 (by omega)), (fun _ => ok2 (by omega)), fun _ => ⟨hn, hm, hYp⟩, B4⟩
              case measure => simp [intOf]
          · have hm2 : 4 < m3 := by omega
            clear hL
            go_wp2_with fail
            go_ret
            exact ⟨rfl, BW.out _ hbel.out⟩
        · have hn2 : 4 < n3 := by omega
          clear hL
          go_wp2_with fail
          go_ret
          exact ⟨rfl, BW.out _ hbel.out⟩
    · obtain rfl : i = 3 := by omega
      obtain ⟨nb1, mb1, yp1⟩ := ok1 (by omega)
      obtain ⟨nb2, mb2, yp2⟩ := ok2 (by omega)
      obtain ⟨nb3, mb3, yp3⟩ := ok3 (by omega)
      clear ok1 ok2 ok3 LH
      obtain ⟨x0, x1, x2, x3⟩ := xH.out
      obtain ⟨y0, y1, y2, y3⟩ := yH.out
      obtain ⟨z0, z1, z2, z3⟩ := zH.out
      replace x0 := CX.out _ hbel.out _ _ x0
      replace x1 := CX.out _ hbel.out _ _ x1
      replace x2 := CX.out _ hbel.out _ _ x2
      replace x3 := CX.out _ hbel.out _ _ x3
      replace y0 := CX.out _ hbel.out _ _ y0
      replace y1 := CX.out _ hbel.out _ _ y1
      replace y2 := CX.out _ hbel.out _ _ y2
      replace y3 := CX.out _ hbel.out _ _ y3
      replace z0 := CX.out _ hbel.out _ _ z0
      replace z1 := CX.out _ hbel.out _ _ z1
      replace z2 := CX.out _ hbel.out _ _ z2
      replace z3 := CX.out _ hbel.out _ _ z3
      obtain ⟨vx, hvx⟩ : ∃ v, v = cmpQ (sgn s1 X1) (sgn t1 Y1) (sgn s2 X2) (sgn t2 Y2) := ⟨_, rfl⟩
      obtain ⟨vy, hvy⟩ : ∃ v, v = cmpQ (sgn s2 X2) (sgn t2 Y2) (sgn s3 X3) (sgn t3 Y3) := ⟨_, rfl⟩
      obtain ⟨vz, hvz⟩ : ∃ v, v = cmpQ (sgn s1 X1) (sgn t1 Y1) (sgn s3 X3) (sgn t3 Y3) := ⟨_, rfl⟩
      obtain ⟨vw, hvw⟩ : ∃ v, v = cmpQ (sgn s2 X2) (sgn t2 Y2) (sgn s1 X1) (sgn t1 Y1) := ⟨_, rfl⟩
      have hq1 := sgn_ne (s := t1) yp1
      have hq2 := sgn_ne (s := t2) yp2
      have hq3 := sgn_ne (s := t3) yp3
      have e1 : vx = -vw := by rw [hvx, hvw]; exact cmpQ_anti _ _ _ _
      have e2 : 0 ≤ vx → 0 ≤ vy → 0 ≤ vz := by rw [hvx, hvy, hvz]; exact cmpQ_up hq1 hq2 hq3
      have e3 : vx ≤ 0 → vy ≤ 0 → vz ≤ 0 := by rw [hvx, hvy, hvz]; exact cmpQ_down hq1 hq2 hq3
      have bx := cmpQ_range (sgn s1 X1) (sgn t1 Y1) (sgn s2 X2) (sgn t2 Y2)
      have by' := cmpQ_range (sgn s2 X2) (sgn t2 Y2) (sgn s3 X3) (sgn t3 Y3)
      have bz := cmpQ_range (sgn s1 X1) (sgn t1 Y1) (sgn s3 X3) (sgn t3 Y3)
      have bw := cmpQ_range (sgn s2 X2) (sgn t2 Y2) (sgn s1 X1) (sgn t1 Y1)
      rw [← hvx] at bx
      rw [← hvy] at by'
      rw [← hvz] at bz
      rw [← hvw] at bw
      have E1 := Lib.hid e1
      have E2 := Lib.hid e2
      have E3 := Lib.hid e3
      have VX := Lib.hid hvx
      have VY := Lib.hid hvy
      have VZ := Lib.hid hvz
      have VW := Lib.hid hvw
      clear e1 e2 e3 hvx hvy hvz hvw hq1 hq2 hq3
      go_wp2_with fail
      refine (rcmp_calls s1 A1 n1 c1 X1 t1 D1 m1 d1 Y1 s2 A2 n2 c2 X2 t2 D2 m2 d2 Y2 _ (H1.out.below (BW.out _ hbel.out)) (K1.out.below (BW.out _ hbel.out)) (H2.out.below (BW.out _ hbel.out)) (K2.out.below (BW.out _ hbel.out)) (by omega) (by omega) (by omega) (by omega)).mono ?_
      rintro e w3 ⟨hc, _, hb⟩
      obtain rfl := hc ⟨yp1, yp2⟩
      have B3 := Lib.hid (hbel.out.trans (hb.mono hbel.out.size))
      rw [← VX.out]
      clear hc hb hbel x0 x1 x2 x3 y0 y1 y2 y3 z0 z1 z2 z3
      obtain ⟨x0, x1, x2, x3⟩ := xH.out
      obtain ⟨y0, y1, y2, y3⟩ := yH.out
      obtain ⟨z0, z1, z2, z3⟩ := zH.out
      replace x0 := CX.out _ B3.out _ _ x0
      replace x1 := CX.out _ B3.out _ _ x1
      replace x2 := CX.out _ B3.out _ _ x2
      replace x3 := CX.out _ B3.out _ _ x3
      replace y0 := CX.out _ B3.out _ _ y0
      replace y1 := CX.out _ B3.out _ _ y1
      replace y2 := CX.out _ B3.out _ _ y2
      replace y3 := CX.out _ B3.out _ _ y3
      replace z0 := CX.out _ B3.out _ _ z0
      replace z1 := CX.out _ B3.out _ _ z1
      replace z2 := CX.out _ B3.out _ _ z2
      replace z3 := CX.out _ B3.out _ _ z3
      go_wp2_with fail
      refine (rcmp_calls s2 A2 n2 c2 X2 t2 D2 m2 d2 Y2 s3 A3 n3 c3 X3 t3 D3 m3 d3 Y3 _ (H2.out.below (BW.out _ B3.out)) (K2.out.below (BW.out _ B3.out)) (H3.out.below (BW.out _ B3.out)) (K3.out.below (BW.out _ B3.out)) (by omega) (by omega) (by omega) (by omega)).mono ?_
      rintro e w4 ⟨hc, _, hb⟩
      obtain rfl := hc ⟨yp2, yp3⟩
      have B4 := Lib.hid (B3.out.trans (hb.mono B3.out.size))
      rw [← VY.out]
      clear hc hb B3 x0 x1 x2 x3 y0 y1 y2 y3 z0 z1 z2 z3
      obtain ⟨x0, x1, x2, x3⟩ := xH.out
      obtain ⟨y0, y1, y2, y3⟩ := yH.out
      obtain ⟨z0, z1, z2, z3⟩ := zH.out
      replace x0 := CX.out _ B4.out _ _ x0
      replace x1 := CX.out _ B4.out _ _ x1
      replace x2 := CX.out _ B4.out _ _ x2
      replace x3 := CX.out _ B4.out _ _ x3
      replace y0 := CX.out _ B4.out _ _ y0
      replace y1 := CX.out _ B4.out _ _ y1
      replace y2 := CX.out _ B4.out _ _ y2
      replace y3 := CX.out _ B4.out _ _ y3
      replace z0 := CX.out _ B4.out _ _ z0
      replace z1 := CX.out _ B4.out _ _ z1
      replace z2 := CX.out _ B4.out _ _ z2
      replace z3 := CX.out _ B4.out _ _ z3
      go_wp2_with fail
      refine (rcmp_calls s1 A1 n1 c1 X1 t1 D1 m1 d1 Y1 s3 A3 n3 c3 X3 t3 D3 m3 d3 Y3 _ (H1.out.below (BW.out _ B4.out)) (K1.out.below (BW.out _ B4.out)) (H3.out.below (BW.out _ B4.out)) (K3.out.below (BW.out _ B4.out)) (by omega) (by omega) (by omega) (by omega)).mono ?_
      rintro e w5 ⟨hc, _, hb⟩
      obtain rfl := hc ⟨yp1, yp3⟩
      have B5 := Lib.hid (B4.out.trans (hb.mono B4.out.size))
      rw [← VZ.out]
      clear hc hb B4 x0 x1 x2 x3 y0 y1 y2 y3 z0 z1 z2 z3
      obtain ⟨x0, x1, x2, x3⟩ := xH.out
      obtain ⟨y0, y1, y2, y3⟩ := yH.out
      obtain ⟨z0, z1, z2, z3⟩ := zH.out
      replace x0 := CX.out _ B5.out _ _ x0
      replace x1 := CX.out _ B5.out _ _ x1
      replace x2 := CX.out _ B5.out _ _ x2
      replace x3 := CX.out _ B5.out _ _ x3
      replace y0 := CX.out _ B5.out _ _ y0
      replace y1 := CX.out _ B5.out _ _ y1
      replace y2 := CX.out _ B5.out _ _ y2
      replace y3 := CX.out _ B5.out _ _ y3
      replace z0 := CX.out _ B5.out _ _ z0
      replace z1 := CX.out _ B5.out _ _ z1
      replace z2 := CX.out _ B5.out _ _ z2
      replace z3 := CX.out _ B5.out _ _ z3
      go_wp2_with fail
      refine (rcmp_calls s2 A2 n2 c2 X2 t2 D2 m2 d2 Y2 s1 A1 n1 c1 X1 t1 D1 m1 d1 Y1 _ (H2.out.below (BW.out _ B5.out)) (K2.out.below (BW.out _ B5.out)) (H1.out.below (BW.out _ B5.out)) (K1.out.below (BW.out _ B5.out)) (by omega) (by omega) (by omega) (by omega)).mono ?_
      rintro e w6 ⟨hc, _, hb⟩
      obtain rfl := hc ⟨yp2, yp1⟩
      have B6 := Lib.hid (B5.out.trans (hb.mono B5.out.size))
      rw [← VW.out]
      clear hc hb B5 x0 x1 x2 x3 y0 y1 y2 y3 z0 z1 z2 z3
      obtain ⟨x0, x1, x2, x3⟩ := xH.out
      obtain ⟨y0, y1, y2, y3⟩ := yH.out
      obtain ⟨z0, z1, z2, z3⟩ := zH.out
      replace x0 := CX.out _ B6.out _ _ x0
      replace x1 := CX.out _ B6.out _ _ x1
      replace x2 := CX.out _ B6.out _ _ x2
      replace x3 := CX.out _ B6.out _ _ x3
      replace y0 := CX.out _ B6.out _ _ y0
      replace y1 := CX.out _ B6.out _ _ y1
      replace y2 := CX.out _ B6.out _ _ y2
      replace y3 := CX.out _ B6.out _ _ y3
      replace z0 := CX.out _ B6.out _ _ z0
      replace z1 := CX.out _ B6.out _ _ z1
      replace z2 := CX.out _ B6.out _ _ z2
      replace z3 := CX.out _ B6.out _ _ z3
      have hxw := E1.out
      have hcases : (vx < 0 ∧ 0 < vy) ∨ (vx < 0 ∧ vy ≤ 0 ∧ vz ≤ 0) ∨ (vx = 0 ∧ vy < 0 ∧ vz ≤ 0) ∨ (vx = 0 ∧ vy = 0 ∧ vz = 0) ∨ (vx = 0 ∧ 0 < vy ∧ 0 ≤ vz) ∨ (0 < vx ∧ vy < 0) ∨ (0 < vx ∧ 0 ≤ vy ∧ 0 ≤ vz) := by
        have h2 := E2.out
        have h3 := E3.out
        omega
      have rc : Hid (∀ w', Below W2.heap.size W2 w' → Calls Tryz.prog 16 #[.agg #[.bool s1, .slice A1 n1 c1, .bool t1, .slice D1 m1 d1], .agg #[.bool s2, .slice A2 n2 c2, .bool t2, .slice D2 m2 d2]] w' fun e w'' => e = .returned (.int .i64 vx) ∧ Below w'.heap.size w' w'') := fun w' hb => by
        rw [VX.out]
        exact refRcmp_calls s1 A1 n1 c1 X1 t1 D1 m1 d1 Y1 s2 A2 n2 c2 X2 t2 D2 m2 d2 Y2 w' (H1.out.below (BW.out _ hb)) (K1.out.below (BW.out _ hb)) (H2.out.below (BW.out _ hb)) (K2.out.below (BW.out _ hb)) (by omega) (by omega) (by omega) (by omega) yp1 yp2
      clear VX VY VZ VW E1 E2 E3 xH yH zH CX
      rcases hcases with ⟨g1, g2⟩ | ⟨g1, g2, g3⟩ | ⟨g1, g2, g3⟩ | ⟨g1, g2, g3⟩ | ⟨g1, g2, g3⟩ | ⟨g1, g2⟩ | ⟨g1, g2, g3⟩
      all_goals
        go_wp2_with fail
        refine (rc.out _ B6.out).mono ?_
        rintro e w7 ⟨rfl, hb⟩
        have B7 := Lib.hid (B6.out.trans (hb.mono B6.out.size))
        clear hb B6 rc
        go_wp2_with fail
        go_ret
        exact ⟨rfl, BW.out _ B7.out⟩
end Go.Proofs.YtmobnjlbbhhedaaGreatDoor
