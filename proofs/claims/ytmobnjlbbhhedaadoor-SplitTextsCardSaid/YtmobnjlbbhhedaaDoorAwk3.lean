/- The walk of outriggerlaw03.awake. -/
import Derived.Test.YtmobnjlbbhhedaaDoorText
import Derived.Test.YtmobnjlbbhhedaaDoorDivH
set_option linter.unusedVariables false
set_option linter.unusedSimpArgs false
namespace Go.Proofs.YtmobnjlbbhhedaaDoor
open Go.RowKit

theorem lit_at (w : World) (x : Nat) (hx : x < B64) : Num .u64 B64 (w.alloc (.cells #[.int .u64 x] 36)) (.slice (some ⟨w.heap.size, 0, none⟩) 1 1) x 1 :=
  Num.one hx (by rw [World.cell?_alloc_at _ _ _ _ rfl]; rfl)
theorem lit_at2 (w : World) (o : Obj) (x : Nat) (hx : x < B64) : Num .u64 B64 ((w.alloc o).alloc (.cells #[.int .u64 x] 36)) (.slice (some ⟨w.heap.size + 1, 0, none⟩) 1 1) x 1 :=
  Num.one hx (by rw [World.cell?_alloc_at _ _ _ _ (by simp)]; rfl)
theorem isLen_lit {x : Nat} (h0 : 0 < x) (hx : x < B64) : IsLen B64 x 1 := ⟨by simpa using hx, fun m hm => by
  rcases m with _ | m
  · simp at hm; omega
  · omega⟩
theorem Below.twice {w : World} (o o' : Obj) : Below w.heap.size w ((w.alloc o).alloc o') := ((Below.refl _ w).alloc (Nat.le_refl _) _).alloc (by simp) _

set_option maxHeartbeats 1000000 in
set_option maxRecDepth 100000 in
theorem awake3_calls (w : World) (hT : TabAt w) (htab : Lib.TabIs Tryd.prog w "internal/strconv.uint64pow10" .u64 Lib.pow10Tab) :
    Calls Tryd.prog 8 #[] w fun e w' => e = .returned (.bool true) ∧ Below w.heap.size w w' := by
  have T := Lib.hid hT
  have TT := Lib.hid (Lib.tabBelow_of_tabIs htab)
  clear hT htab
  go_enter Tryd.func8, Tryd.ntmps8
  go_wp2_with fail
  refine (quo_calls _ _ 17 5 1 1 _ ((lit_at w 17 (by decide)).below ((Below.refl _ _).alloc (Nat.le_refl _) _)) (lit_at2 w _ 5 (by decide)) (by omega) (by omega) (by omega)).mono ?_
  rintro e w1 ⟨v1, v2, rfl, ⟨⟨r1, h1, l1⟩, r2, h2, l2⟩, hb⟩
  obtain rfl : r1 = 1 := l1.uniq (isLen_lit (by decide) (by decide))
  obtain rfl : r2 = 1 := l2.uniq (isLen_lit (by decide) (by decide))
  obtain ⟨A1, c1, rfl, _, _⟩ := h1.form
  obtain ⟨A2, c2, rfl, _, _⟩ := h2.form
  have H1 := Lib.hid h1
  have H2 := Lib.hid h2
  have B1 : Hid (Below w.heap.size w w1) := (Below.twice _ _).trans (hb.mono (by simp; omega))
  clear h1 h2 l1 l2 hb
  go_wp2_with fail
  have Ba : Hid (∀ o o', Below w1.heap.size w1 ((w1.alloc o).alloc o')) := fun o o' => Below.twice _ _
  refine (gcd_calls _ _ 12 18 1 1 _ ((lit_at w1 12 (by decide)).below ((Below.refl _ _).alloc (Nat.le_refl _) _)) (lit_at2 w1 _ 18 (by decide)) (by omega) (by omega) (T.out.below (B1.out.trans ((Ba.out _ _).mono B1.out.size)))).mono ?_
  rintro e w2 ⟨v3, r3, rfl, h3, l3, hb⟩
  obtain rfl : r3 = 1 := l3.uniq (isLen_lit (by decide) (by decide))
  obtain ⟨A3, c3, rfl, _, _⟩ := h3.form
  have H3 := Lib.hid h3
  have Bb : Hid (Below w1.heap.size w1 w2) := (Ba.out _ _).trans (hb.mono (by simp; omega))
  have B2 : Hid (Below w.heap.size w w2) := B1.out.trans (Bb.out.mono B1.out.size)
  replace H1 := Lib.hid (H1.out.below Bb.out)
  replace H2 := Lib.hid (H2.out.below Bb.out)
  clear h3 l3 hb Ba Bb B1
  go_wp2_with fail
  have Bc : Hid (Below w2.heap.size w2 (w2.alloc (.cells #[.int .u64 120] 36))) := (Below.refl _ w2).alloc (Nat.le_refl _) _
  refine (text_120 _ 1 1 _ (lit_at w2 120 (by decide)) (by omega) (TT.out _ (B2.out.trans (Bc.out.mono B2.out.size)))).mono ?_
  rintro e w3 ⟨rfl, hb⟩
  have Bb : Hid (Below w2.heap.size w2 w3) := Bc.out.trans (hb.mono (by simp))
  have B3 : Hid (Below w.heap.size w w3) := B2.out.trans (Bb.out.mono B2.out.size)
  obtain ⟨a1, rfl, e1⟩ := (H1.out.below Bb.out).cell (show 0 < 1 by omega)
  obtain ⟨a2, rfl, e2⟩ := (H2.out.below Bb.out).cell (show 0 < 1 by omega)
  obtain ⟨a3, rfl, e3⟩ := (H3.out.below Bb.out).cell (show 0 < 1 by omega)
  rw [add_zero', dig_small (by decide)] at e1 e2 e3
  have k1 : w3.cell? a1 = some (.int .u64 3) := e1
  have k2 : w3.cell? a2 = some (.int .u64 2) := e2
  have k3 : w3.cell? a3 = some (.int .u64 6) := e3
  clear hb Bb Bc B2 H1 H2 H3 e1 e2 e3
  go_wp2_with fail
  go_ret
  exact ⟨rfl, B3.out⟩
end Go.Proofs.YtmobnjlbbhhedaaDoor
