/- The walk of outriggerref02's Mul. -/
import Derived.Test.YtmobnjlbbhhedaaGreatDoorRefG
set_option linter.unusedVariables false
set_option linter.unusedSimpArgs false
namespace Go.Proofs.YtmobnjlbbhhedaaGreatDoor
open Go.RowKit

set_option maxHeartbeats 2000000 in
set_option maxRecDepth 100000 in
theorem mulz_calls (v u : Value) (Za Zb : Int) (La Lb : Nat) (w : World) (h : RNum w v Za La) (k : RNum w u Zb Lb) (hLa : La ≤ 20000) (hLb : Lb ≤ 20000) :
    Calls Tryz.prog 15 #[v, u] w fun e w' => ∃ r, e = .returned r ∧ RNum w' r (Za * Zb) (La + Lb) ∧ Below w.heap.size w w' := by
  obtain ⟨na, A, m, c, X, rfl, hNa, hla, hma, hZa, _⟩ := h
  obtain ⟨nb, B, m', c', Y, rfl, hNb, hlb, hmb, hZb, _⟩ := k
  have Ha := Lib.hid hNa
  have Hb := Lib.hid hNb
  have hX := Lib.hid hla.1
  have hY := Lib.hid hlb.1
  clear hNa hNb hla hlb
  have hZ : Hid (∀ bb : Bool, bb = (na != nb) → (if bb = true then -((X * Y : Nat) : Int) else ((X * Y : Nat) : Int)) = Za * Zb) := by
    rintro bb rfl
    rw [hZa, hZb]
    cases na <;> cases nb <;> simp [Int.neg_mul, Int.mul_neg]
  clear hZa hZb
  go_enter Tryz.func15, Tryz.ntmps15
  go_wp2_with fail
  have E := enter3 w na A m c nb B m' c'
  generalize (((w.alloc (.cells #[.bool na, .slice A m c] 36)).alloc (.cells #[.bool nb, .slice B m' c'] 36)).alloc (.cells #[.bool false, .slice none 0 0] 36)) = W at *
  obtain ⟨B0, a0, a1, b0, b1, Hblk, hsz⟩ := E
  have Ha2 := Lib.hid (Ha.out.below B0.out)
  have Hb2 := Lib.hid (Hb.out.below B0.out)
  clear Ha Hb
  go_region_held3 (fun w' => w'.cell? ⟨w.heap.size, 0, none⟩ = some (.bool na) ∧ w'.cell? ⟨w.heap.size, 1, none⟩ = some (.slice A m c) ∧ w'.cell? ⟨w.heap.size + 1, 0, none⟩ = some (.bool nb) ∧ w'.cell? ⟨w.heap.size + 1, 1, none⟩ = some (.slice B m' c'))
    (first | exact ⟨a0, a1, b0, b1⟩ | exact ⟨cell_below hb1'.out a0, cell_below hb1'.out a1, cell_below hb1'.out b0, cell_below hb1'.out b1⟩ | exact ⟨cell_below hb2'.out (cell_below hb1'.out a0), cell_below hb2'.out (cell_below hb1'.out a1), cell_below hb2'.out (cell_below hb1'.out b0), cell_below hb2'.out (cell_below hb1'.out b1)⟩ | exact ⟨put_far (cell_below hb2'.out (cell_below hb1'.out a0)) (show w.heap.size + 1 + 1 ≠ w.heap.size by omega), put_far (cell_below hb2'.out (cell_below hb1'.out a1)) (show w.heap.size + 1 + 1 ≠ w.heap.size by omega), put_far (cell_below hb2'.out (cell_below hb1'.out b0)) (show w.heap.size + 1 + 1 ≠ w.heap.size + 1 by omega), put_far (cell_below hb2'.out (cell_below hb1'.out b1)) (show w.heap.size + 1 + 1 ≠ w.heap.size + 1 by omega)⟩)
    (first
    | (go_at_call 36; refine (refMul_calls _ _ X Y m m' _ ?_ ?_ (by omega) (by omega)).mono ?_; exact Ha2.out; exact Hb2.out; rintro e w1 ⟨C, r, c2, rfl, HC, hlc, hb1⟩; have HC' := Lib.hid HC; have hlc' := Lib.hid hlc; have hb1' := Lib.hid hb1; clear HC hlc hb1)
    | (go_at_call 29; refine (new_calls _ _ _ r _ HC'.out).mono ?_; rintro e w2 ⟨v2, rfl, hR, hb2⟩; obtain ⟨b3, A3, m3, c3, rfl⟩ := hR.form; have hblk := (hb2.block _ (Nat.lt_of_lt_of_le hsz hb1'.out.size)).trans ((hb1'.out.block _ hsz).trans Hblk.out); have hput := Lib.hid (RNum.put ((B0.out.drew.trans (hb1'.out.mono B0.out.size)).trans (hb2.mono (Nat.le_trans B0.out.size hb1'.out.size))) (by omega) hblk hR); obtain ⟨k0, k1, k2, k3⟩ := kept_cells hblk; have kr := Lib.hid (kept_reads hblk (.bool b3) (.slice A3 m3 c3)); have hb2' := Lib.hid hb2; clear hR hb2 hblk))
  have hL : r ≤ La + Lb := Nat.le_trans (mul_len hX.out hY.out hlc'.out) (Nat.add_le_add hma hmb)
  obtain ⟨q0, q1⟩ := kr.out
  go_wp2_with fail
  refine bodyPost_ret (v := .agg #[.bool b3, .slice A3 m3 c3]) (by simp [results, Tryz.results15, go_sem, q0, q1]) rfl ?_
  have h1 := hput.out.1.le hL
  rw [hZ.out _ (by cases na <;> cases nb <;> rfl)] at h1
  exact ⟨_, rfl, h1, hput.out.2⟩
end Go.Proofs.YtmobnjlbbhhedaaGreatDoor
